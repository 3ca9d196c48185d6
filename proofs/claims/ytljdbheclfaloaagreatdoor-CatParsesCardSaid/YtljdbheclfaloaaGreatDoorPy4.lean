/-
  Part 4.
  Conditions: as each says.
-/
import Derived.Test.YtljdbheclfaloaaGreatDoorPy3
open List renaming getElem?_eq_some_iff→yoq,getElem?_set_ne→you,getElem?_eq_getElem→yow,getElem?_set_self→yox,length_set→yo3,drop_eq_nil_of_le→yo5,length_append→yo8,getElem?_append_left→yo9,length_cons→ypb,length_map→ypd,mem_append→ype,length_drop→ypf,eq_nil_of_length_eq_zero→ypj,append_nil→ypl,getElem?_append_right→ypn,drop_eq_getElem_cons→ypo,map_cons→ypr,length_take→ypt,getElem?_eq_none→ypv,mem_cons→ypx,take_of_length_le→ypy,getElem?_take→yp0,mem_of_getElem?→yp3,append_assoc→yp4,drop_length→yp5,map_append→yp8,all_eq_true→yp9
open Nat renaming reduceAdd→yor,reduceSub→yos,le_refl→yoz,reduceLT→ypc,add_zero→yqe,le_trans→yqf
open Int renaming cast_ofNat_Int→yov,reduceLT→yqd
open Bool renaming false_eq_true→yoy,false_ne_true→yo1,bne_true→yo4,bne_false→ypa,and_eq_true→ypi,or_eq_false_iff→ypu,false_or→ypz,true_and→yp2,eq_iff_iff→yp7,or_eq_true→yqa,true_or→yqg
open Option renaming map_some→yp6
open Ne renaming symm→yps
namespace Go.Proofs.YtljdbheclfaloaaGreatDoor.AM
open Go.RowKit
set_option linter.unusedSimpArgs false
set_option linter.unusedVariables false
set_option maxRecDepth 20000
/-- A hexadecimal digit's value. -/
def hexV (n:Int):Option Nat:=if 48≤n∧n≤57 then some (n - 48).toNat else if 97≤n∧n≤102 then some (n - 87).toNat else if 65≤n∧n≤70 then some (n - 55).toNat else none
def digN (b acc:Nat):List UInt8→Option Nat
 | []=>some acc
 | c::r=>match hexV (c.toNat:Int) with
  | some d=>if d<b then digN b (acc*b+d) r else none
  | none=>none
def zjs (w:List UInt8):Bool:=[48,120].isPrefixOf w&&decide (2<w.length)
def zhq (w:List UInt8):Nat:=if zjs w then 16 else 10
def zhe (w:List UInt8):Nat:=if zjs w then 16 else 19
def zbr (w:List UInt8):List UInt8:=if zjs w then w.drop 2 else w
def numV (w:List UInt8):Option Nat:=
 if (zbr w).length<1∨zhe w<(zbr w).length then none else match digN (zhq w) 0 (zbr w) with
  | some v=>if v≤9223372036854775808 then some v else none
  | none=>none
theorem yby {n:Int} {d:Nat} (h:hexV n=some d):d<16:=by
 unfold hexV at h
 split at h
 ·cases h;omega
 ·split at h
  ·cases h;omega
  ·split at h
   ·cases h;omega
   ·cases h
theorem yll (c:UInt8):(∃d,hexV (c.toNat:Int)=some d∧d<10)↔(48≤c.toNat∧c.toNat≤57):=by
 unfold hexV
 constructor
 ·rintro ⟨d,h,hd⟩
  split at h
  ·omega
  ·split at h
   ·cases h;omega
   ·split at h
    ·cases h;omega
    ·cases h
 ·intro h
  exact ⟨_,if_pos (by omega),by omega⟩
theorem yii:∀(l:List UInt8) (acc k:Nat),acc<10 ^ k→k+l.length≤19→Lib.parseUintM (2 ^ 64 - 1) acc l=match digN 10 acc l with | some u=>.ok u | none=>.syntax
 | [],acc,k,_,_=>rfl
 | c::r,acc,k,ha,hk=>by
  rw [Lib.parseUintM,digN]
  by_cases hc:48≤c.toNat∧c.toNat≤57
  ·have h1:hexV (c.toNat:Int)=some (c.toNat - 48):=by
    unfold hexV;rw [if_pos (by omega)];congr 1;omega
   have hp:10 ^ k≤10 ^ 18:=Nat.pow_le_pow_right (by omega) (by simp at hk;omega)
   have h2:¬1844674407370955162≤acc:=by
    have:(10:Nat)^ 18=1000000000000000000:=by decide
    omega
   have h3:¬(2 ^ 64 - 1<acc*10+(c.toNat - 48)):=by
    have:(10:Nat)^ 18=1000000000000000000:=by decide
    have:(2:Nat)^ 64 - 1=18446744073709551615:=by decide
    omega
   rw [if_pos hc,if_neg h2,if_neg h3,h1]
   simp only
   rw [if_pos (by omega)]
   exact yii r _ (k+1) (by rw [Nat.pow_succ];omega) (by simp at hk;omega)
  ·rw [if_neg hc]
   have:=mt (yll c).1 hc
   cases hx:hexV (c.toNat:Int) with
   | none=>rfl
   | some d=>
    simp only
    rw [if_neg fun hd=>this ⟨d,hx,hd⟩]
theorem yjv:∀c:UInt8,hexD c=hexV (c.toNat:Int):=by
 have h:((List.range 256).all fun n=>hexD (UInt8.ofNat n)==hexV ((UInt8.ofNat n).toNat:Int))=true:=by kernel_rfl
 intro c
 have:=yp9.1 h c.toNat (by simp;exact c.toNat_lt)
 simpa using this
theorem yi1:∀(l:List UInt8) (acc:Nat),hexN acc l=match digN 16 acc l with | some u=>.ok u | none=>.syntax
 | [],_=>rfl
 | c::r,acc=>by
  rw [hexN,digN,yjv]
  cases hx:hexV (c.toNat:Int) with
  | none=>rfl
  | some d=>
   simp only
   rw [if_pos (yby hx)]
   exact yi1 r _
theorem ygr (l:List UInt8) (h:l.length≤19):zex 10 ⟨l.toArray⟩=some (if l.length<1 then none else digN 10 0 l):=by
 rw [zt4]
 show (match Lib.parseUintB 64 l with | .ok u=>some (some u) | .syntax=>some none | .range=>none)=_
 unfold Lib.parseUintB
 by_cases h0:l=[]
 ·subst h0;rfl
 ·have:0<l.length:=List.length_pos_iff.2 h0
  rw [if_neg h0,if_neg (by omega),yii l 0 0 (by decide) (by omega)]
  cases digN 10 0 l <;> rfl
theorem ygu (l:List UInt8) (h:l.length≤16):zex 16 ⟨l.toArray⟩=some (if l.length<1 then none else digN 16 0 l):=by
 by_cases h0:l.length=0
 ·rw [zyt _ (by rw [zdj];exact h0),if_pos (by omega)]
 ·rw [ztz _ (by rw [zdj];exact h0) (by rw [zdj];exact h),if_neg (by omega)]
  show (match hexN 0 l with | .ok u=>some (some u) | .syntax=>some none | .range=>none)=_
  rw [yi1]
  cases digN 16 0 l <;> rfl
theorem zq4 (b:Nat):∀(l:List UInt8) (acc:Nat),0≤Lib.index l [95]→digN b acc l=none
 | [],_,h=>by simp [Lib.index] at h
 | c::r,acc,h=>by
  rw [Lib.index] at h
  rw [digN]
  by_cases hc:c=95
  ·subst hc;rfl
  ·have hp:[95].isPrefixOf (c::r)=false:=by
    simp [List.isPrefixOf];exact fun e=>hc e.symm
   rw [hp] at h
   have hr:0≤Lib.index r [95]:=by
    by_cases h1:(Lib.index r [95]== -1)=true
    ·rw [if_neg (by simp),if_pos h1] at h;omega
    ·have:=Lib.index_ge r [95]
     simp at h1;omega
   cases hexV (c.toNat:Int) with
   | none=>rfl
   | some d=>
    simp only
    split
    ·exact zq4 b r _ hr
    ·rfl
theorem zmr:ve .iface .nilIface .nilIface=some true:=rfl
theorem zyf:ve .iface ya1 .nilIface=some false:=rfl
def numR (w:List UInt8) (v:Value):Prop:=∃m:Int,v=tup [.int .i64 m,.bool (numV w).isSome]∧∀u,numV w=some u→m=IntKind.i64.wrap u
def zmm (b most:Nat) (d:List UInt8):Option Nat:=
 if most<d.length then none else match (if d.length<1 then none else digN b 0 d) with
  | some v=>if v≤9223372036854775808 then some v else none
  | none=>none
theorem zqp (w:List UInt8) (h:[48,120].isPrefixOf w=false):numV w=zmm 10 19 w:=by
 have hh:zjs w=false:=by unfold zjs;rw [h];rfl
 unfold numV zmm zbr zhe zhq
 rw [hh]
 simp only [yoy,if_false]
 by_cases h1:w.length<1
 ·rw [if_pos (.inl h1),if_pos h1];split <;> rfl
 ·by_cases h2:19<w.length
  ·rw [if_pos (.inr h2),if_pos h2]
  ·rw [if_neg (by omega),if_neg h2,if_neg h1]
theorem zr4 (w:List UInt8) (h:[48,120].isPrefixOf w=true):numV w=zmm 16 16 (w.drop 2):=by
 by_cases hl:2<w.length
 ·have hh:zjs w=true:=by unfold zjs;rw [h];simp [hl]
  unfold numV zmm zbr zhe zhq
  rw [hh]
  simp only [if_true]
  by_cases h1:(w.drop 2).length<1
  ·rw [if_pos (.inl h1),if_pos h1];split <;> rfl
  ·by_cases h2:16<(w.drop 2).length
   ·rw [if_pos (.inr h2),if_pos h2]
   ·rw [if_neg (by omega),if_neg h2,if_neg h1]
 ·have hlen:=zq7 h
  simp at hlen
  have hw:w=[48,120]:=by
   rw [List.isPrefixOf_iff_prefix] at h
   exact (h.eq_of_length (by simp;omega)).symm
  subst hw
  decide
theorem zrf (w:List UInt8) {h:Heap} (g:Gl h) (hl:w.length<4294967281):∃v,DF FF zf6 [str w] h=some (v,h)∧numR w v:=by
 cases hx:[48,120].isPrefixOf w
 ·by_cases hm:19<w.length
  ·refine ⟨tup [.int .i64 0,.bool false],?_,0,by rw [zqp w hx];unfold zmm;rw [if_pos hm];rfl,by rw [zqp w hx];unfold zmm;rw [if_pos hm];intro u hu;cases hu⟩
   refine ye jt ?_
   have c1:((19:Int)<(w.length:Int)):=by omega
   simp only [ja,zi,zb,yor,yos,pa,zz,zf,zu,zh,xy,hx,if_false,yoy,c1,pkA,pkB]
  ·have c1:¬((19:Int)<(w.length:Int)):=by omega
   cases hu:decide (0≤Lib.index w [95]) with
   | true=>
    have hn:numV w=none:=by
     rw [zqp w hx];unfold zmm;rw [if_neg hm,zq4 10 w 0 (by simpa using hu)];simp
    refine ⟨tup [.int .i64 0,.bool false],?_,0,by rw [hn];rfl,by rw [hn];intro u hu;cases hu⟩
    refine ye jt ?_
    simp only [ja,zi,zb,yor,yos,pa,zz,zf,zu,zh,xy,hx,if_false,yoy,c1,vx _ _ g hl,hu,pkA,pkB]
   | false=>
    have hp:=zhv w 10 g hl (ygr w (by omega))
    have hn:numV w=match (if w.length<1 then none else digN 10 0 w) with | some v=>if v≤9223372036854775808 then some v else none | none=>none:=by
     rw [zqp w hx];unfold zmm;rw [if_neg hm]
    generalize (if w.length<1 then none else digN 10 0 w)=r at hp hn
    cases r with
    | none=>
     simp only at hn
     refine ⟨tup [.int .i64 0,.bool false],?_,0,by rw [hn];rfl,by rw [hn];intro u hu;cases hu⟩
     refine ye jt ?_
     simp only [ja,zi,zb,zlr,yor,yos,pa,zz,ypa,yz,zf,zu,zh,xy,hx,if_false,yoy,c1,vx _ _ g hl,hu,hp,zno,zyf,zl,pkA,pkB];rfl
    | some u=>
     simp only at hn
     by_cases hq:u≤9223372036854775808
     ·have c2:((u:Int)≤9223372036854775808)=True:=by simp;omega
      rw [if_pos hq] at hn
      refine ⟨tup [.int .i64 (IntKind.i64.wrap u),.bool true],?_,_,by rw [hn];rfl,by rw [hn];intro u' hu';cases hu';rfl⟩
      refine ye jt ?_
      simp only [ja,zi,zb,zlr,yor,yos,pa,zz,ypa,yz,zf,zu,zh,xy,hx,if_false,yoy,c1,vx _ _ g hl,hu,hp,zno,zmr,zl,c2,pkA,pkB]
     ·have c2:((u:Int)≤9223372036854775808)=False:=by simp;omega
      rw [if_neg hq] at hn
      refine ⟨tup [.int .i64 (IntKind.i64.wrap u),.bool false],?_,_,by rw [hn];rfl,by rw [hn];intro u' hu';cases hu'⟩
      refine ye jt ?_
      simp only [ja,zi,zb,zlr,yor,yos,pa,zz,ypa,yz,zf,zu,zh,xy,hx,if_false,yoy,c1,vx _ _ g hl,hu,hp,zno,zmr,zl,c2,pkA,pkB]
 ·have hld:(w.drop 2).length<4294967281:=by simp;omega
  by_cases hm:16<(w.drop 2).length
  ·refine ⟨tup [.int .i64 0,.bool false],?_,0,by rw [zr4 w hx];unfold zmm;rw [if_pos hm];rfl,by rw [zr4 w hx];unfold zmm;rw [if_pos hm];intro u hu;cases hu⟩
   refine ye jt ?_
   have c1:((16:Int)<((w.drop 2).length:Int)):=by omega
   simp only [ja,zi,zb,yor,yos,pa,zz,zf,zu,zh,xy,hx,if_true,c1,pkA,pkB]
  ·have c1:¬((16:Int)<((w.drop 2).length:Int)):=by omega
   cases hu:decide (0≤Lib.index (w.drop 2) [95]) with
   | true=>
    have hn:numV w=none:=by
     rw [zr4 w hx];unfold zmm;rw [if_neg hm,zq4 16 _ 0 (by simpa using hu)];simp
    refine ⟨tup [.int .i64 0,.bool false],?_,0,by rw [hn];rfl,by rw [hn];intro u hu;cases hu⟩
    refine ye jt ?_
    simp only [ja,zi,zb,yor,yos,pa,zz,zf,zu,zh,xy,hx,if_true,c1,vx _ _ g hld,hu,pkA,pkB]
   | false=>
    have hp:=zhv (w.drop 2) 16 g hld (ygu _ (by omega))
    have hn:numV w=match (if (w.drop 2).length<1 then none else digN 16 0 (w.drop 2)) with | some v=>if v≤9223372036854775808 then some v else none | none=>none:=by
     rw [zr4 w hx];unfold zmm;rw [if_neg hm]
    generalize (if (w.drop 2).length<1 then none else digN 16 0 (w.drop 2))=r at hp hn
    cases r with
    | none=>
     simp only at hn
     refine ⟨tup [.int .i64 0,.bool false],?_,0,by rw [hn];rfl,by rw [hn];intro u hu;cases hu⟩
     refine ye jt ?_
     simp only [ja,zi,zb,zlr,yor,yos,pa,zz,ypa,yz,zf,zu,zh,xy,hx,if_true,c1,vx _ _ g hld,hu,hp,zno,zyf,zl,pkA,pkB];rfl
    | some u=>
     simp only at hn
     by_cases hq:u≤9223372036854775808
     ·have c2:((u:Int)≤9223372036854775808)=True:=by simp;omega
      rw [if_pos hq] at hn
      refine ⟨tup [.int .i64 (IntKind.i64.wrap u),.bool true],?_,_,by rw [hn];rfl,by rw [hn];intro u' hu';cases hu';rfl⟩
      refine ye jt ?_
      simp only [ja,zi,zb,zlr,yor,yos,pa,zz,ypa,yz,zf,zu,zh,xy,hx,if_true,c1,vx _ _ g hld,hu,hp,zno,zmr,zl,c2,pkA,pkB]
     ·have c2:((u:Int)≤9223372036854775808)=False:=by simp;omega
      rw [if_neg hq] at hn
      refine ⟨tup [.int .i64 (IntKind.i64.wrap u),.bool false],?_,_,by rw [hn];rfl,by rw [hn];intro u' hu';cases hu'⟩
      refine ye jt ?_
      simp only [ja,zi,zb,zlr,yor,yos,pa,zz,ypa,yz,zf,zu,zh,xy,hx,if_true,c1,vx _ _ g hld,hu,hp,zno,zmr,zl,c2,pkA,pkB]
def blkB (n:Int):Bool:=(n==32 || n==9) || n==10
def remK:List UInt8→Nat
 | c::d::l=>if ((c.toNat:Int)==42&&(d.toNat:Int)==41) then 0 else remK (d::l)+1
 | _=>0
inductive Skip
 | no
 | go (k:Nat)
 | err
def zg7:List UInt8→Skip
 | []=>.no
 | c::s=>if blkB (c.toNat:Int) then .go 1 else if [40,42].isPrefixOf (c::s) then (if remK (s.drop 1)+1<(s.drop 1).length then .go (remK (s.drop 1)+4) else .err) else .no
def marksL:List UInt8:=[123,125,40,41,91,93,59,124,44,58,61,43,45,35,36,126,42,47,92,38,63,94]
def znq (c:UInt8):Bool:=marksL.contains c
inductive Word
 | word (kind len:Nat) (n:Int)
 | bad (c:Nat)
def zgv (s:List UInt8):Word:=match s with
 | []=>.bad 20
 | c::_=>if digV (c.toNat:Int) then (match numV (s.take (rowN numB s)) with
   | some n=>.word 2 (rowN numB s) (IntKind.i64.wrap n)
   | none=>.bad 23)
  else if letV (c.toNat:Int) || (c.toNat:Int)==95 then .word 1 (rowN namB s) 0
  else if [47,92].isPrefixOf s || [92,47].isPrefixOf s then .word 3 2 0
  else if znq c then .word 3 1 0
  else .bad 20
structure Tok where
 kind:Nat
 text:List UInt8
 n:Int
 at_:Nat
def yd (t:Tok):List Value:=[.int .i64 (t.kind:Int),str t.text,.int .i64 t.n,.int .i64 (t.at_:Int)]
inductive Res
 | ok (l:List Tok)
 | bad (c at_:Nat)
def Res.pre (l:List Tok):Res→Res
 | .ok m=>.ok (l++m)
 | .bad c a=>.bad c a
def zik:Nat→List UInt8→Nat→Res
 | 0,_,_=>.ok []
 | f+1,s,a=>if s=[] then .ok [] else match zg7 s with
  | .go k=>zik f (s.drop k) (a+k)
  | .err=>.bad 24 a
  | .no=>match zgv s with
   | .word kd k n=>(zik f (s.drop k) (a+k)).pre [⟨kd,s.take k,n,a⟩]
   | .bad c=>.bad c a
theorem Res.pre_pre (a b:List Tok) (r:Res):(r.pre b).pre a=r.pre (a++b):=by cases r <;> simp [Res.pre]
theorem zjz {s:List UInt8} {k:Nat} (h:zg7 s=.go k):1≤k∧k≤s.length:=by
 cases s with
 | nil=>cases h
 | cons c s=>
  rw [zg7] at h
  split at h
  ·cases h;simp
  ·split at h
   ·split at h
    ·cases h;simp at *;omega
    ·cases h
   ·cases h
theorem zx9 {p:Int→Bool} {c:UInt8} {s:List UInt8} (h:p (c.toNat:Int)=true):1≤rowN p (c::s):=by
 rw [rowN,if_pos h];omega
theorem zfc {s:List UInt8} {kd k:Nat} {n:Int} (h:zgv s=.word kd k n):1≤k∧k≤s.length:=by
 cases s with
 | nil=>cases h
 | cons c s=>
  rw [zgv] at h
  split at h
  ·rename_i hc
   split at h
   ·cases h
    exact ⟨zx9 (by unfold numB;rw [hc];simp),zhh _ _⟩
   ·cases h
  ·split at h
   ·rename_i hc
    cases h
    refine ⟨zx9 ?_,zhh _ _⟩
    unfold namB numB
    rcases Bool.or_eq_true_iff.1 hc with hc | hc <;> simp [hc]
   ·split at h
    ·rename_i hp
     cases h
     refine ⟨by omega,?_⟩
     rcases Bool.or_eq_true_iff.1 hp with hp | hp <;> simpa using zq7 hp
    ·split at h
     ·cases h;simp
     ·cases h
theorem zer:∀(f f':Nat) (s:List UInt8) (a:Nat),s.length≤f→s.length≤f'→zik f s a=zik f' s a
 | 0,f',s,a,h,h'=>by
  have:s=[]:=ypj (by omega)
  subst this
  cases f' <;> simp [zik]
 | f+1,0,s,a,h,h'=>by
  have:s=[]:=ypj (by omega)
  subst this
  simp [zik]
 | f+1,f'+1,s,a,h,h'=>by
  rw [zik,zik]
  by_cases hs:s=[]
  ·rw [if_pos hs,if_pos hs]
  ·rw [if_neg hs,if_neg hs]
   cases hk:zg7 s with
   | go k=>
    have:=zjz hk
    exact zer f f' _ _ (by simp;omega) (by simp;omega)
   | err=>rfl
   | no=>
    cases hw:zgv s with
    | word kd k n=>
     have:=zfc hw
     simp only
     rw [zer f f' _ _ (by simp;omega) (by simp;omega)]
    | bad c=>rfl
def j6 (s:List UInt8) (a:Nat):Res:=zik s.length s a
theorem zjy (a:Nat):j6 [] a=.ok []:=rfl
theorem zkg {s:List UInt8} (hs:s≠[]) (a:Nat):j6 s a=match zg7 s with
  | .go k=>j6 (s.drop k) (a+k)
  | .err=>.bad 24 a
  | .no=>match zgv s with
   | .word kd k n=>(j6 (s.drop k) (a+k)).pre [⟨kd,s.take k,n,a⟩]
   | .bad c=>.bad c a:=by
 unfold j6
 have hp:0<s.length:=List.length_pos_iff.2 hs
 obtain ⟨m,hm⟩:∃m,s.length=m+1:=⟨s.length - 1,by omega⟩
 rw [hm,zik,if_neg hs]
 cases hk:zg7 s with
 | go k=>
  have:=zjz hk
  exact zer _ _ _ _ (by simp;omega) (by simp)
 | err=>rfl
 | no=>
  cases hw:zgv s with
  | word kd k n=>
   have:=zfc hw
   simp only
   rw [zer _ _ _ _ (by simp;omega) (yoz _)]
  | bad c=>rfl
theorem zfx {l:List UInt8} {a:Nat} (ha:a<l.length):l.drop a=l[a]::l.drop (a+1):=ypo ha
theorem yh6 (c d:UInt8):((c.toNat:Int)==(d.toNat:Int))=(c==d):=by
 rw [yp7,beq_iff_eq,beq_iff_eq]
 constructor
 ·intro h;exact UInt8.toNat_inj.1 (by omega)
 ·intro h;rw [h]
theorem zej {l:List UInt8} {a:Nat} (ha:a+1<l.length) (x y:UInt8):[x,y].isPrefixOf (l.drop a)=((l[a]'(by omega)).toNat==x.toNat&&(l[a+1]).toNat==y.toNat):=by
 rw [zfx (by omega),zfx ha]
 simp only [List.isPrefixOf,Bool.and_true]
 congr 1
 ·rw [yp7,beq_iff_eq,beq_iff_eq,←UInt8.toNat_inj];exact eq_comm
 ·rw [yp7,beq_iff_eq,beq_iff_eq,←UInt8.toNat_inj];exact eq_comm
theorem yfn {l:List UInt8} {a:Nat} (ha:l.length≤a+1) (x y:UInt8):[x,y].isPrefixOf (l.drop a)=false:=ztt _ _ (by simp;omega)
theorem zwd:∀(l:List UInt8) (k:Nat),k≤remK l→((∃h:k+1<l.length,((l[k]'(by omega)).toNat==(42:Int)&&(l[k+1].toNat:Int)==41)=false)↔k<remK l)
 | [],k,h=>by simp [remK] at h ⊢
 | [c],k,h=>by simp [remK] at h ⊢
 | c::d::l,0,h=>by
  rw [remK]
  constructor
  ·rintro ⟨h1,h2⟩
   simp only [List.getElem_cons_zero,List.getElem_cons_succ] at h2
   rw [h2];simp
  ·intro h1
   refine ⟨by simp,?_⟩
   simp only [List.getElem_cons_zero,List.getElem_cons_succ]
   rw [←Bool.not_eq_true]
   intro h2
   rw [if_pos h2] at h1;omega
 | c::d::l,k+1,h=>by
  rw [remK] at h ⊢
  split at h
  ·omega
  ·rename_i hc
   rw [if_neg hc]
   have:=zwd (d::l) k (by omega)
   constructor
   ·rintro ⟨h1,h2⟩
    have:=this.1 ⟨by simp at h1 ⊢;omega,by simpa using h2⟩
    omega
   ·intro h1
    obtain ⟨h2,h3⟩:=this.2 (by omega)
    exact ⟨by simp at h2 ⊢;omega,by simpa using h3⟩
theorem zvx:∀l:List UInt8,remK l≤l.length
 | []=>by simp [remK]
 | [c]=>by simp [remK]
 | c::d::l=>by
  rw [remK];split
  ·omega
  ·have:=zvx (d::l);simp at this ⊢;omega
theorem ztm:∀l:List UInt8,Lib.index l [42,41]=if remK l+1<l.length then (remK l:Int) else -1
 | []=>by simp [remK,Lib.index]
 | [c]=>by simp [remK,Lib.index,List.isPrefixOf]
 | c::d::l=>by
  have ih:=ztm (d::l)
  rw [Lib.index,ih,remK]
  have e:[42,41].isPrefixOf (c::d::l)=((c.toNat:Int)==42&&(d.toNat:Int)==41):=by
   simp only [List.isPrefixOf,Bool.and_true]
   have h1:=yh6 c 42
   have h2:=yh6 d 41
   simp only [show ((42:UInt8).toNat:Int)=42 from rfl,show ((41:UInt8).toNat:Int)=41 from rfl] at h1 h2
   rw [h1,h2]
   congr 1 <;> exact Bool.beq_comm
  rw [e]
  split
  ·simp
  ·by_cases h1:remK (d::l)+1<(d::l).length
   ·rw [if_pos h1,if_neg (by first | (simp;done) | (simp;omega)),if_pos (by simp at h1 ⊢;omega)];try omega
   ·rw [if_neg h1,if_pos (by rfl),if_neg (by simp at h1 ⊢;omega)]
theorem zu0 {n:Int} (h:0≤n∧n<256):IntKind.u8.wrap n=n:=by
 simp [IntKind.wrap,IntKind.signed,IntKind.bits];omega
def hexZ (n:Int):Int:=match hexV n with
 | some d=>d
 | none=> -1
theorem zj0 (c:UInt8) (h:Heap):DF FF zcl [.int .u8 (c.toNat:Int)] h=some (.int .i64 (hexZ (c.toNat:Int)),h):=by
 refine ye zlj ?_
 have hc:c.toNat<256:=c.toNat_lt
 generalize c.toNat=n at hc
 have e:digV n=decide (48≤n∧n≤57):=by unfold digV;rw [Bool.decide_and];congr 1 <;> simp <;> omega
 unfold hexZ hexV
 by_cases h1:48≤n∧n≤57
 ·have hd:digV n=true:=by rw [e];simpa using h1
  have e1:IntKind.u8.wrap ((n:Int) - 48)=(n:Int) - 48:=zu0 (by omega)
  have e2:IntKind.i64.wrap ((n:Int) - 48)=(n:Int) - 48:=zkf (by omega)
  rw [if_pos (by omega)]
  simp only [jq,zb,zlr,yos,xo,hd,e1,e2,pkA,pkB]
  have:(((n:Int) - 48).toNat:Int)=(n:Int) - 48:=by omega
  rw [this]
 ·have hd:digV n=false:=by rw [e];simpa using h1
  rw [if_neg (by omega)]
  by_cases h2:97≤n
  ·have c1:((97:Int)≤(n:Int))=True:=by simp;omega
   by_cases h3:n≤102
   ·have c2:((n:Int)≤102)=True:=by simp;omega
    have e1:IntKind.u8.wrap ((n:Int) - 97)=(n:Int) - 97:=zu0 (by omega)
    have e2:IntKind.i64.wrap ((n:Int) - 97)=(n:Int) - 97:=zkf (by omega)
    have e3:IntKind.i64.wrap ((n:Int) - 97+10)=(n:Int) - 87:=by rw [zkf (by omega)];omega
    rw [if_pos (by omega)]
    simp only [jq,zi,zb,zlr,yos,xo,hd,c1,c2,e1,e2,e3,pkA,pkB]
    have:(((n:Int) - 87).toNat:Int)=(n:Int) - 87:=by omega
    rw [this]
   ·have c2:((n:Int)≤102)=False:=by simp;omega
    have c3:((65:Int)≤(n:Int))=True:=by simp;omega
    have c4:((n:Int)≤70)=False:=by simp;omega
    rw [if_neg (by omega),if_neg (by omega)]
    simp only [jq,zi,zb,yos,xo,hd,c1,c2,c3,c4,pkA,pkB]
  ·have c1:((97:Int)≤(n:Int))=False:=by simp;omega
   rw [if_neg (by omega)]
   by_cases h3:65≤n
   ·have c3:((65:Int)≤(n:Int))=True:=by simp;omega
    by_cases h4:n≤70
    ·have c4:((n:Int)≤70)=True:=by simp;omega
     have e1:IntKind.u8.wrap ((n:Int) - 65)=(n:Int) - 65:=zu0 (by omega)
     have e2:IntKind.i64.wrap ((n:Int) - 65)=(n:Int) - 65:=zkf (by omega)
     have e3:IntKind.i64.wrap ((n:Int) - 65+10)=(n:Int) - 55:=by rw [zkf (by omega)];omega
     rw [if_pos (by omega)]
     simp only [jq,zi,zb,zlr,yos,xo,hd,c1,c3,c4,e1,e2,e3,pkA,pkB]
     have:(((n:Int) - 55).toNat:Int)=(n:Int) - 55:=by omega
     rw [this]
    ·have c4:((n:Int)≤70)=False:=by simp;omega
     rw [if_neg (by omega)]
     simp only [jq,zi,zb,yos,xo,hd,c1,c3,c4,pkA,pkB]
   ·have c3:((65:Int)≤(n:Int))=False:=by simp;omega
    rw [if_neg (by omega)]
    simp only [jq,zi,zb,yos,xo,hd,c1,c3,pkA,pkB]
theorem zsb (l:List UInt8) (hl:l.length<4611686018427387904) (a:Nat) (ha:a≤l.length) (b:Bool) (h:Heap):
  DF FF zap [str l,.int .i64 (a:Int),.bool b] h=some (.int .i64 ((a+rowN (if b then namB else numB) (l.drop a):Nat):Int),h):=by
 refine ye zkz ?_
 generalize hp:(if b then namB else numB)=p
 have hle:=zhh p (l.drop a)
 simp only [ypf] at hle
 have hpv:∀n:Int,p n=if letV n then true else if digV n then true else if b then (if n==95 then true else n==46) else false:=by
  intro n;subst hp
  cases b <;> cases h1:letV n <;> cases h2:digV n <;> cases h3:(n==95)<;> simp [namB,numB,h1,h2,h3]
 simp only [zfu,yor,yos,pkA,pkB]
 refine gg (rowN p (l.drop a)) (fun k st=>∃j:Nat→Value,st=⟨[str l,.int .i64 ((a+k:Nat):Int),.bool b,j 3,j 4,j 5,j 6,j 7,j 8,j 9,j 10,j 11,j 12,j 13,j 14,j 15,j 16,j 17,j 18,j 19,j 20,j 21,j 22,j 23,j 24,j 25,j 26,j 27,j 28,j 29,j 30,j 31,j 32,j 33,j 34,j 35,j 36,j 37,j 38,j 39,j 40],h⟩) ?_ ?_ _ ?_
 ·rintro k st hk ⟨j,rfl⟩
  have hkl:a+k<l.length:=by omega
  have h1:(((a+k:Nat):Int)<(l.length:Int))=True:=by simp;omega
  have hq:=(zn3 p (l.drop a) k (by simp;omega) (by omega)).2 hk
  rw [List.getElem_drop,hpv] at hq
  have hw:IntKind.i64.wrap (((a+k:Nat):Int)+1)=((a+(k+1):Nat):Int):=by rw [zkf (by omega)];omega
  cases e1:letV (l[a+k].toNat:Int)
  ·cases e2:digV (l[a+k].toNat:Int)
   ·rw [e1,e2] at hq
    cases b
    ·simp at hq
    ·cases e3:((l[a+k].toNat:Int)==95)
     ·rw [e3] at hq
      have e4:((l[a+k].toNat:Int)==46)=true:=by simpa using hq
      simp only [zi,zb,zc,zu,zh,yr,h1,xl _ hkl,vd,xo,e1,e2,e3,e4,hw,pkA]
      exact junk rfl
     ·simp only [zi,zb,zc,zu,zh,yr,h1,xl _ hkl,vd,xo,e1,e2,e3,hw,pkA]
      exact junk rfl
   ·cases b <;> simp only [zi,zb,zc,zu,zh,yr,h1,xl _ hkl,vd,xo,e1,e2,hw,pkA]<;> exact junk rfl
  ·cases b <;> simp only [zi,zb,zc,zu,zh,yr,h1,xl _ hkl,vd,e1,hw,pkA]<;> exact junk rfl
 ·rintro st ⟨j,rfl⟩
  by_cases hkl:a+rowN p (l.drop a)<l.length
  ·have h1:(((a+rowN p (l.drop a):Nat):Int)<(l.length:Int))=True:=by simp;omega
   have hq:p (l[a+rowN p (l.drop a)].toNat:Int)=false:=by
    have:=zn3 p (l.drop a) _ (by simp;omega) (yoz _)
    rw [List.getElem_drop] at this
    rw [←Bool.not_eq_true,this];omega
   rw [hpv] at hq
   cases e1:letV (l[a+rowN p (l.drop a)].toNat:Int)
   ·cases e2:digV (l[a+rowN p (l.drop a)].toNat:Int)
    ·rw [e1,e2] at hq
     cases b
     ·simp only [zi,zb,zq,zu,zh,yr,h1,xl _ hkl,vd,xo,e1,e2,pkA]
     ·cases e3:((l[a+rowN p (l.drop a)].toNat:Int)==95)
      ·rw [e3] at hq
       have e4:((l[a+rowN p (l.drop a)].toNat:Int)==46)=false:=by simpa using hq
       simp only [zi,zb,zq,zu,zh,yr,h1,xl _ hkl,vd,xo,e1,e2,e3,e4,pkA]
      ·rw [e3] at hq;simp at hq
    ·rw [e1,e2] at hq;simp at hq
   ·rw [e1] at hq;simp at hq
  ·have h1:(((a+rowN p (l.drop a):Nat):Int)<(l.length:Int))=False:=by simp;omega
   simp only [zi,zb,zq,zu,zh,h1,pkA]
 ·exact junk rfl
theorem znh:str [123,125,40,41,91,93,59,124,44,58,61,43,45,35,36,126,42,47,92,38,63,94]=str marksL:=rfl
theorem zt6:marksL.length=22:=rfl
theorem zci (c:UInt8) (h:Heap):DF FF zb9 [.int .u8 (c.toNat:Int)] h=some (.bool (znq c),h):=by
 refine ye zkk ?_
 simp only [zes,yos,zf,znh,pkA,pkB]
 refine gg 22 (fun k st=>(∀(i:Nat) (hi:i<marksL.length),i<k→marksL[i]≠c)∧∃j:Nat→Value,st=⟨[.int .u8 (c.toNat:Int),j 1,j 2,.int .i64 (k:Int),j 4,j 5,j 6,j 7,j 8,j 9,j 10,j 11],h⟩) ?_ ?_ _ ?_
 ·rintro k st hk ⟨hall,j,rfl⟩
  have hkl:k<marksL.length:=by rw [zt6];exact hk
  have h1:((k:Int)<22)=True:=by simp;omega
  cases he:(marksL[k]==c)
  ·simp only [zb,zc,yr,h1,xl _ hkl,yh6,he,zs (k:=k) (by omega),pkA]
   refine ⟨fun i hi hik=> ?_,junk rfl⟩
   by_cases hik2:i=k
   ·subst hik2;simpa using he
   ·exact hall i hi (by omega)
  ·have hm:znq c=true:=by
    unfold znq;rw [List.contains_iff_mem];rw [beq_iff_eq] at he;rw [←he];exact List.getElem_mem _
   simp only [zb,wt,yr,h1,xl _ hkl,yh6,he,hm,pkA]
 ·rintro st ⟨hall,j,rfl⟩
  have hm:znq c=false:=by
   unfold znq;rw [←Bool.not_eq_true,List.contains_iff_mem]
   intro hc
   obtain ⟨i,hi,e⟩:=List.getElem_of_mem hc
   exact hall i hi (by rw [zt6] at hi;exact hi) e
  simp only [zb,zq,show (((22:Nat):Int)<22)=False from by simp,hm,pkA]
 ·exact ⟨fun i hi h=>by omega,junk rfl⟩
theorem wrap_u64 {n:Int} (h:0≤n∧n<18446744073709551616):IntKind.u64.wrap n=n:=by
 simp [IntKind.wrap,IntKind.signed,IntKind.bits];omega
theorem ydx {b:Nat} (hb:1≤b):∀(l:List UInt8) (acc v:Nat),digN b acc l=some v→acc≤v
 | [],acc,v,h=>by cases h;omega
 | c::r,acc,v,h=>by
  rw [digN] at h
  split at h
  ·split at h
   ·have:=ydx hb r _ v h
    have:acc*1≤acc*b:=Nat.mul_le_mul_left _ hb
    omega
   ·cases h
  ·cases h
def valZ (w:List UInt8):Int:=match numV w with
 | some v=>IntKind.i64.wrap v
 | none=>0
theorem yhg {w:List UInt8} (hl:2<w.length):zjs w=((w[0].toNat:Int)==48&&(w[1].toNat:Int)==120):=by
 have:=zej (l:=w) (a:=0) (by omega) 48 120
 rw [List.drop_zero] at this
 unfold zjs
 rw [this]
 simp only [hl,decide_true,Bool.and_true]
 congr 1 <;> rw [yp7,beq_iff_eq,beq_iff_eq]
 ·show w[0].toNat=48↔_;omega
 ·show w[1].toNat=120↔_;omega
def topV (o:Option Nat):Option Nat:=match o with
 | some v=>if v≤9223372036854775808 then some v else none
 | none=>none
def yid (o:Option Nat):Value:=tup [.int .i64 (match o with | some v=>IntKind.i64.wrap v | none=>0),.bool o.isSome]
section
variable {F:Funcs} {s:St} {Q:AEx→St→Prop}
theorem yl0 {a b:zal} (P:St→Prop) (ha:WPD (D F a s) (fun x s=>x=.normal∧P s)) (hb:∀s,P s→WPD (D F b s) Q):WPD (D F (.seq a b) s) Q:=by
 rw [zy8]
 refine ha.mono fun x s ⟨hx,hp⟩=> ?_
 subst hx;exact hb s hp
theorem ybz {a b c:zal} (h:WPD (D F (.seq (.seq a b) c) s) Q):WPD (D F (.seq a (.seq b c)) s) Q:=by
 rw [zy8,zy8] at h
 rw [zy8]
 refine h.mono fun x s hq=> ?_
 cases x with
 | normal=>show WPD (D F (.seq b c) s) Q;rw [zy8];exact hq
 | exit i=>exact hq
 | ret=>exact hq
end
theorem ycx {n:Int} (h:hexV n=none):hexZ n= -1:=by unfold hexZ;rw [h]
theorem zol {n:Int} {d:Nat} (h:hexV n=some d):hexZ n=d:=by unfold hexZ;rw [h]
theorem zx6 {b acc d:Nat} (hb:b=10∨b=16) (hd:d<16):((9223372036854775808 - (d:Int)).tdiv (b:Int)<(acc:Int))↔9223372036854775808<acc*b+d:=by
 rw [Int.tdiv_eq_ediv_of_nonneg (by omega)]
 rcases hb with rfl | rfl
 ·omega
 ·omega
theorem yex {w:List UInt8} (h:((zbr w).length<1∨zhe w<(zbr w).length)):numV w=none:=by unfold numV;rw [if_pos h]
theorem ycp {w:List UInt8} (h:¬((zbr w).length<1∨zhe w<(zbr w).length)):numV w=topV (digN (zhq w) 0 (zbr w)):=by unfold numV;rw [if_neg h];rfl
theorem zud (w:List UInt8) (hl:w.length<4611686018427387904) (h:Heap):DF FF zbj [str w] h=some (yid (numV w),h):=by
 refine ye zja ?_
 refine ybz (ybz (ybz (yl0 (fun st=>∃(j:Nat→Value),st=⟨[str (zbr w),j 1,.int .i64 0,.bool false,.int .i64 (zhq w:Int),.int .i64 (zhe w:Int),j 6,j 7,j 8,j 9,j 10,j 11,j 12,j 13,j 14,j 15,j 16,j 17,j 18,j 19,j 20,j 21,j 22,j 23,j 24,j 25,j 26,j 27,j 28,j 29,j 30,j 31,j 32,j 33,j 34,j 35,j 36,j 37,j 38,j 39,j 40,j 41,j 42,j 43,j 44,j 45,j 46,j 47,j 48,j 49,j 50,j 51,j 52,j 53,j 54,j 55,j 56,j 57,j 58,j 59,j 60,j 61,j 62,j 63,j 64,j 65,j 66,j 67,j 68],h⟩) ?_ ?_)))
 ·by_cases h2:2<w.length
  ·have c1:((2:Int)<(w.length:Int))=True:=by simp;omega
   have e0:=xl h (l:=w) (k:=0) (by omega) .i64
   have e1:=xl h (l:=w) (k:=1) (by omega) .i64
   have e2:=zju h (l:=w) (k:=2) (by omega) .i64
   simp only [yov] at e0 e1 e2
   have hh:=yhg h2
   cases f0:((w[0].toNat:Int)==48)
   ·rw [f0] at hh
    have hh:zjs w=false:=by rw [hh];rfl
    simp only [w8,zi,zb,yos,zu,zh,yr,c1,e0,f0,pkA,pkB]
    refine ⟨trivial,?_⟩
    rw [show zbr w=w from by unfold zbr;rw [hh];rfl,show zhq w=10 from by unfold zhq;rw [hh];rfl,show zhe w=19 from by unfold zhe;rw [hh];rfl]
    exact junk rfl
   ·cases f1:((w[1].toNat:Int)==120)
    ·rw [f0,f1] at hh
     have hh:zjs w=false:=by rw [hh];rfl
     simp only [w8,zi,zb,yos,zu,zh,yr,c1,e0,f0,e1,f1,pkA,pkB]
     refine ⟨trivial,?_⟩
     rw [show zbr w=w from by unfold zbr;rw [hh];rfl,show zhq w=10 from by unfold zhq;rw [hh];rfl,show zhe w=19 from by unfold zhe;rw [hh];rfl]
     exact junk rfl
    ·rw [f0,f1] at hh
     have hh:zjs w=true:=by rw [hh];rfl
     simp only [w8,zi,zb,yos,zu,zh,yr,xk,c1,e0,f0,e1,f1,e2,pkA,pkB]
     refine ⟨trivial,?_⟩
     rw [show zbr w=w.drop 2 from by unfold zbr;rw [hh];rfl,show zhq w=16 from by unfold zhq;rw [hh];rfl,show zhe w=16 from by unfold zhe;rw [hh];rfl]
     exact junk rfl
  ·have c1:((2:Int)<(w.length:Int))=False:=by simp;omega
   have hh:zjs w=false:=by unfold zjs;simp [h2]
   simp only [w8,zi,zb,yos,zu,zh,c1,pkA,pkB]
   refine ⟨trivial,?_⟩
   rw [show zbr w=w from by unfold zbr;rw [hh];rfl,show zhq w=10 from by unfold zhq;rw [hh];rfl,show zhe w=19 from by unfold zhe;rw [hh];rfl]
   exact junk rfl
 ·rintro st ⟨j,rfl⟩
  have hb:zhq w=10∨zhq w=16:=by unfold zhq;split <;> omega
  have hdl:(zbr w).length<4611686018427387904:=by unfold zbr;split <;>(try simp)<;> omega
  by_cases hx:(zbr w).length<1∨zhe w<(zbr w).length
  ·rw [yex hx]
   by_cases h1:(zbr w).length<1
   ·have c1:(((zbr w).length:Int)<1)=True:=by simp;omega
    simp only [w8,zi,zb,pa,zz,zu,zh,c1,pkA];rfl
   ·have c1:(((zbr w).length:Int)<1)=False:=by simp;omega
    have c2:((zhe w:Int)<((zbr w).length:Int))=True:=by simp;omega
    simp only [w8,zi,zb,pa,zz,zu,zh,c1,c2,pkA];rfl
  ·rw [ycp hx]
   have c1:(((zbr w).length:Int)<1)=False:=by simp;omega
   have c2:((zhe w:Int)<((zbr w).length:Int))=False:=by simp;omega
   simp only [w8,zi,zb,zu,zh,c1,c2,pkA]
   generalize zbr w=d at hdl
   generalize zhq w=b at hb
   have hb0:¬((b:Int)=0):=by omega
   have wb:IntKind.u64.wrap (b:Int)=(b:Int):=wrap_u64 (by omega)
   refine gg d.length (fun k st=>∃(acc:Nat) (j:Nat→Value),acc≤9223372036854775808∧digN b 0 d=digN b acc (d.drop k)∧st=⟨[str d,j 1,j 2,j 3,.int .i64 (b:Int),j 5,.int .u64 (acc:Int),.int .i64 (k:Int),j 8,j 9,j 10,j 11,j 12,j 13,j 14,j 15,j 16,j 17,j 18,j 19,j 20,j 21,j 22,j 23,j 24,j 25,j 26,j 27,j 28,j 29,j 30,j 31,j 32,j 33,j 34,j 35,j 36,j 37,j 38,j 39,j 40,j 41,j 42,j 43,j 44,j 45,j 46,j 47,j 48,j 49,j 50,j 51,j 52,j 53,j 54,j 55,j 56,j 57,j 58,j 59,j 60,j 61,j 62,j 63,j 64,j 65,j 66,j 67,j 68],h⟩) ?_ ?_ _ ?_
   ·rintro k st hk ⟨acc,j,hac,hdg,rfl⟩
    have h1:((k:Int)<(d.length:Int))=True:=by simp;omega
    have hstep:digN b 0 d=match hexV (d[k].toNat:Int) with
      | some x=>if x<b then digN b (acc*b+x) (d.drop (k+1)) else none
      | none=>none:=by rw [hdg,zfx hk,digN];skip
    cases hv:hexV (d[k].toNat:Int) with
    | none=>
     rw [hv] at hstep
     simp only [zi,zb,pa,zz,yqd,wt,zu,zh,yr,h1,xl _ hk,zj0,ycx hv,hstep,topV,pkA];rfl
    | some x=>
     have hx16:=yby hv
     rw [hv] at hstep
     simp only at hstep
     have c3:((x:Int)<0)=False:=by simp
     by_cases hxb:x<b
     ·have c4:((b:Int)≤(x:Int))=False:=by simp;omega
      rw [if_pos hxb] at hstep
      have w1:IntKind.u64.wrap (x:Int)=(x:Int):=wrap_u64 (by omega)
      have w2:IntKind.u64.wrap (9223372036854775808 - (x:Int))=9223372036854775808 - (x:Int):=wrap_u64 (by omega)
      have w3:IntKind.u64.wrap ((9223372036854775808 - (x:Int)).tdiv (b:Int))=(9223372036854775808 - (x:Int)).tdiv (b:Int):=by
       refine wrap_u64 ?_
       rw [Int.tdiv_eq_ediv_of_nonneg (by omega)]
       rcases hb with rfl | rfl
       ·omega
       ·omega
      by_cases hov:9223372036854775808<acc*b+x
      ·have c5:((9223372036854775808 - (x:Int)).tdiv (b:Int)<(acc:Int))=True:=by simpa using (zx6 hb hx16).2 hov
       have hn:topV (digN b (acc*b+x) (d.drop (k+1)))=none:=by
        unfold topV
        split
        ·rename_i v he
         have:=ydx (by omega) _ _ _ he
         rw [if_neg (by omega)]
        ·rfl
       simp only [zi,zb,zlr,pa,zz,wt,zu,zh,yr,h1,xl _ hk,zj0,zol hv,hstep,c3,c4,w1,wb,w2,ne_eq,hb0,not_false_eq_true,w3,c5,hn,pkA];rfl
      ·have c5:((9223372036854775808 - (x:Int)).tdiv (b:Int)<(acc:Int))=False:=by simp only [eq_iff_iff,iff_false];exact mt (zx6 hb hx16).1 hov
       have w4:IntKind.u64.wrap ((acc:Int)*(b:Int))=((acc*b:Nat):Int):=by rw [←Int.natCast_mul];exact wrap_u64 (by omega)
       have w5:IntKind.u64.wrap (((acc*b:Nat):Int)+(x:Int))=((acc*b+x:Nat):Int):=by rw [←Int.natCast_add];exact wrap_u64 (by omega)
       simp only [zi,zb,zlr,zc,zu,zh,yr,h1,xl _ hk,zj0,zol hv,c3,c4,w1,wb,w2,ne_eq,hb0,not_false_eq_true,w3,c5,w4,w5,zs (k:=k) (by omega),pkA]
       exact ⟨_,(junk rfl).elim fun j hj=>⟨j,by omega,hstep,hj⟩⟩
     ·have c4:((b:Int)≤(x:Int))=True:=by simp;omega
      rw [if_neg hxb] at hstep
      simp only [zi,zb,pa,zz,wt,zu,zh,yr,h1,xl _ hk,zj0,zol hv,hstep,c3,c4,topV,pkA];rfl
   ·rintro st ⟨acc,j,hac,hdg,rfl⟩
    have h1:(((d.length:Nat):Int)<(d.length:Int))=False:=by simp
    rw [yp5] at hdg
    have hdg:digN b 0 d=some acc:=hdg
    simp only [zb,zlr,pa,zz,zq,zu,zh,h1,hdg,topV,yid,hac,if_true,pkA];rfl
   ·exact ⟨0,(junk rfl).elim fun j hj=>⟨j,by omega,rfl,hj⟩⟩
/-- Where the blanks and remarks from a place on end, or that a remark has no end. -/
def yi4 (l:List UInt8) (a:Nat) (v:Value):Prop:=∃a':Nat,a≤a'∧a'≤l.length∧((v=tup [.int .i64 (a':Int),.int .i64 0]∧zg7 (l.drop a')=.no∧j6 (l.drop a) a=j6 (l.drop a') a')∨(v=tup [.int .i64 (a':Int),
 .int .i64 24]∧j6 (l.drop a) a=.bad 24 a'))
theorem zyn {l:List UInt8} {a:Nat} (ha:a<l.length):zg7 (l.drop a)=if blkB (l[a].toNat:Int) then .go 1 else if [40,42].isPrefixOf (l.drop a) then (if remK (l.drop (a+2))+1<l.length - (a+2) then .go (remK (l.drop (a+2))+4) else .err) else .no:=by
 rw [zfx ha,zg7]
 simp only [List.drop_drop,ypf]
theorem zri {l:List UInt8} {a k:Nat} (ha:a<l.length) (h:zg7 (l.drop a)=.go k):j6 (l.drop a) a=j6 (l.drop (a+k)) (a+k):=by
 rw [zkg (by intro e;have:=congrArg List.length e;simp at this;omega),h]
 simp only [List.drop_drop]
theorem ztx {l:List UInt8} {a:Nat} (ha:a<l.length) (h:zg7 (l.drop a)=.err):j6 (l.drop a) a=.bad 24 a:=by
 rw [zkg (by intro e;have:=congrArg List.length e;simp at this;omega),h]
theorem i40 (c:UInt8):((c.toNat:Int) !=40)= !(c.toNat==40):=by
 rw [yp7];simp;omega
set_option maxHeartbeats 4000000 in
theorem zm7 (l:List UInt8) (hl:l.length<4611686018427387904) (a0:Nat) (ha0:a0≤l.length) (h:Heap):
  ∃v h',DF FF zbf [str l,.int .i64 (a0:Int)] h=some (v,h')∧(h'=h∧yi4 l a0 v):=by
 refine yb zis ?_
 simp only [zec,yor,yos,pkA,pkB]
 refine gg (l.length - a0) (fun k st=>∃(a:Nat) (j:Nat→Value),a0+k≤a∧a≤l.length∧j6 (l.drop a0) a0=j6 (l.drop a) a∧st=⟨[str l,.int .i64 (a:Int),j 2,j 3,j 4,j 5,j 6,j 7,j 8,j 9,j 10,j 11,j 12,j 13,j 14,j 15,j 16,j 17,j 18,j 19,j 20,j 21,j 22,j 23,j 24,j 25,j 26,j 27,j 28,j 29,j 30,j 31,j 32,j 33,j 34,j 35,j 36,j 37,j 38,j 39,j 40,j 41,j 42,j 43,j 44,j 45,j 46,j 47,j 48,j 49,j 50,j 51,j 52,j 53,j 54,j 55,j 56,j 57,j 58,j 59,j 60,j 61,j 62,j 63,j 64,j 65,j 66,j 67,j 68,j 69,j 70,j 71,j 72,j 73,j 74,j 75,j 76,j 77,j 78,j 79],h⟩) ?_ ?_ _ ?_
 ·rintro k st hk ⟨a,j,h1,h2,h3,rfl⟩
  by_cases hal:a<l.length
  ·have c1:((a:Int)<(l.length:Int))=True:=by simp;omega
   have hsk:=zyn hal
   have wa:IntKind.i64.wrap ((a:Int)+1)=((a+1:Nat):Int):=zs (k:=a) (by omega)
   by_cases hb:blkB (l[a].toNat:Int)=true
   ·rw [if_pos hb] at hsk
    have hgo:=zri hal hsk
    unfold blkB at hb
    have fin:∃(a':Nat) (j':Nat→Value),a0+(k+1)≤a'∧a'≤l.length∧j6 (l.drop a0) a0=j6 (l.drop a') a'∧True:=⟨a+1,j,by omega,by omega,h3.trans hgo,trivial⟩
    cases f1:((l[a].toNat:Int)==32)
    ·cases f2:((l[a].toNat:Int)==9)
     ·cases f3:((l[a].toNat:Int)==10)
      ·rw [f1,f2,f3] at hb;simp at hb
      ·simp only [zi,zb,zc,zu,zh,yr,c1,xl _ hal,f1,f2,f3,wa,pkA]
       exact ⟨a+1,(junk rfl).elim fun j hj=>⟨j,by omega,by omega,h3.trans hgo,hj⟩⟩
     ·simp only [zi,zb,zc,zu,zh,yr,c1,xl _ hal,f1,f2,wa,pkA]
      exact ⟨a+1,(junk rfl).elim fun j hj=>⟨j,by omega,by omega,h3.trans hgo,hj⟩⟩
    ·simp only [zi,zb,zc,zu,zh,yr,c1,xl _ hal,f1,wa,pkA]
     exact ⟨a+1,(junk rfl).elim fun j hj=>⟨j,by omega,by omega,h3.trans hgo,hj⟩⟩
   ·rw [if_neg hb] at hsk
    have hb':=Bool.not_eq_true _ |>.mp hb
    unfold blkB at hb'
    rw [ypu,ypu] at hb'
    obtain ⟨⟨f1,f2⟩,f3⟩:=hb'
    have stop:zg7 (l.drop a)=.no→yi4 l a0 (tup [.int .i64 (a:Int),.int .i64 0]):=fun hs=>⟨a,by omega,h2,.inl ⟨rfl,hs,h3⟩⟩
    by_cases g1:(l[a].toNat:Int)=40
    ·have e1:((l[a].toNat:Int) !=40)=false:=by simp [g1]
     by_cases g2:a+1<l.length
     ·have c2:((l.length:Int)≤((a+1:Nat):Int))=False:=by simp;omega
      by_cases g3:(l[a+1].toNat:Int)=42
      ·have e3:((l[a+1].toNat:Int) !=42)=false:=by simp [g3]
       have hpre:[40,42].isPrefixOf (l.drop a)=true:=by
        rw [zej g2]
        have q1:l[a].toNat=40:=by omega
        have q2:l[a+1].toNat=42:=by omega
        rw [q1,q2];rfl
       rw [if_pos hpre] at hsk
       have wa2:IntKind.i64.wrap ((a:Int)+2)=((a+2:Nat):Int):=by rw [zkf (by omega)];omega
       have hrl:=zvx (l.drop (a+2))
       simp only [ypf] at hrl
       have hrl:a+2+remK (l.drop (a+2))≤l.length:=by omega
       simp only [zi,zb,zu,zh,yr,c1,xl _ hal,f1,f2,f3,e1,wa,c2,xl _ g2,e3,wa2,pkA]
       refine gg (remK (l.drop (a+2))) (fun m st=>∃(j:Nat→Value),st=⟨[str l,.int .i64 (a:Int),j 2,j 3,j 4,j 5,.int .i64 ((a+2+m:Nat):Int),j 7,j 8,j 9,j 10,j 11,j 12,j 13,j 14,j 15,j 16,j 17,j 18,j 19,j 20,j 21,j 22,j 23,j 24,j 25,j 26,j 27,j 28,j 29,j 30,j 31,j 32,j 33,j 34,j 35,j 36,j 37,j 38,j 39,j 40,j 41,j 42,j 43,j 44,j 45,j 46,j 47,j 48,j 49,j 50,j 51,j 52,j 53,j 54,j 55,j 56,j 57,j 58,j 59,j 60,j 61,j 62,j 63,j 64,j 65,j 66,j 67,j 68,j 69,j 70,j 71,j 72,j 73,j 74,j 75,j 76,j 77,j 78,j 79],h⟩) ?_ ?_ _ ?_
       ·rintro m st hm ⟨j,rfl⟩
        obtain ⟨p1,p2⟩:=(zwd (l.drop (a+2)) m (by omega)).2 hm
        simp only [ypf] at p1
        rw [List.getElem_drop,List.getElem_drop] at p2
        have q1:a+2+m<l.length:=by omega
        have q2:a+2+m+1<l.length:=by omega
        have p2:((l[a+2+m].toNat:Int)==42&&(l[a+2+m+1].toNat:Int)==41)=false:=p2
        have d1:(((a+2+m+1:Nat):Int)<(l.length:Int))=True:=by simp;omega
        have wm:IntKind.i64.wrap (((a+2+m:Nat):Int)+1)=((a+2+m+1:Nat):Int):=zs (by omega)
        cases r1:((l[a+2+m].toNat:Int)==42)
        ·simp only [zi,zb,zc,zu,zh,yr,wm,d1,xl _ q1,r1,pkA]
         exact junk rfl
        ·rw [r1,yp2] at p2
         simp only [zi,zb,zc,zu,zh,yr,wm,d1,xl _ q1,xl _ q2,r1,p2,pkA]
         exact junk rfl
       ·rintro st ⟨j,rfl⟩
        generalize hr:remK (l.drop (a+2))=r at hsk hrl
        have wm:IntKind.i64.wrap (((a+2+r:Nat):Int)+1)=((a+2+r+1:Nat):Int):=zs (by omega)
        by_cases q2:a+2+r+1<l.length
        ·have q1:a+2+r<l.length:=by omega
         have p2:((l[a+2+r].toNat:Int)==42&&(l[a+2+r+1].toNat:Int)==41)=true:=by
          have:=zwd (l.drop (a+2)) r (by omega)
          rw [←Bool.not_eq_false]
          intro hf
          have:=this.1 ⟨by simp;omega,by rw [List.getElem_drop,List.getElem_drop];exact hf⟩
          omega
         rw [ypi] at p2
         have d1:(((a+2+r+1:Nat):Int)<(l.length:Int))=True:=by simp;omega
         have d2:((l.length:Int)≤((a+2+r+1:Nat):Int))=False:=by simp;omega
         have wr2:IntKind.i64.wrap (((a+2+r:Nat):Int)+2)=((a+(r+4):Nat):Int):=by rw [zkf (by omega)];omega
         rw [if_pos (by omega)] at hsk
         have hgo:=zri hal hsk
         simp only [zi,zb,zc,zq,zu,zh,yr,wm,d1,d2,xl _ q1,xl _ q2,p2.1,p2.2,wr2,pkA]
         exact ⟨a+(r+4),(junk rfl).elim fun j hj=>⟨j,by omega,by omega,h3.trans hgo,hj⟩⟩
        ·have d1:(((a+2+r+1:Nat):Int)<(l.length:Int))=False:=by simp;omega
         have d2:((l.length:Int)≤((a+2+r+1:Nat):Int))=True:=by simp;omega
         rw [if_neg (by omega)] at hsk
         have he:=ztx hal hsk
         simp only [zi,zb,zz,gx,zq,wt,zu,zh,wm,d1,d2,pkA]
         exact ⟨trivial,a,by omega,h2,.inr ⟨rfl,h3.trans he⟩⟩
       ·exact junk rfl
      ·have e3:((l[a+1].toNat:Int) !=42)=true:=by simpa using g3
       have hpre:[40,42].isPrefixOf (l.drop a)=false:=by
        rw [zej g2,Bool.and_eq_false_iff];right
        rw [beq_eq_false_iff_ne];intro e;apply g3
        have:(42:UInt8).toNat=42:=rfl
        omega
       rw [hpre] at hsk
       simp only [zi,zb,zz,gx,wt,zu,zh,yr,c1,xl _ hal,f1,f2,f3,e1,wa,c2,xl _ g2,e3,pkA]
       exact ⟨trivial,stop hsk⟩
     ·have c2:((l.length:Int)≤((a+1:Nat):Int))=True:=by simp;omega
      rw [yfn (by omega)] at hsk
      simp only [zi,zb,zz,gx,wt,zu,zh,yr,c1,xl _ hal,f1,f2,f3,e1,wa,c2,pkA]
      exact ⟨trivial,stop hsk⟩
    ·have e1:((l[a].toNat:Int) !=40)=true:=by simpa using g1
     have hpre:[40,42].isPrefixOf (l.drop a)=false:=by
      by_cases g2:a+1<l.length
      ·rw [zej g2,Bool.and_eq_false_iff];left
       rw [beq_eq_false_iff_ne];intro e;apply g1
       have:(40:UInt8).toNat=40:=rfl
       omega
      ·exact yfn (by omega) _ _
     rw [hpre] at hsk
     simp only [zi,zb,zz,gx,wt,zu,zh,yr,c1,xl _ hal,f1,f2,f3,e1,pkA]
     exact ⟨trivial,stop hsk⟩
  ·have c1:((a:Int)<(l.length:Int))=False:=by simp;omega
   simp only [zb,zz,gx,zq,zu,zh,c1,pkA]
   exact ⟨trivial,a,by omega,h2,.inl ⟨rfl,by rw [yo5 (by omega)];rfl,h3⟩⟩
 ·rintro st ⟨a,j,h1,h2,h3,rfl⟩
  have c1:((a:Int)<(l.length:Int))=False:=by simp;omega
  simp only [zb,zz,gx,zq,zu,zh,c1,pkA]
  exact ⟨trivial,a,by omega,h2,.inl ⟨rfl,by rw [yo5 (by omega)];rfl,h3⟩⟩
 ·exact ⟨a0,(junk rfl).elim fun j hj=>⟨j,by omega,ha0,rfl,hj⟩⟩
def zc0 (l:List UInt8):Res:=if 8192<l.length then .bad 2 0 else j6 l 0
def TokR (h H:Heap) (v:Value):Res→Prop
 | .ok m=>∃s,v=tup [s,.int .i64 0,.int .i64 0]∧Own h H s 4 (m.map yd)
 | .bad c a=>v=tup [.slice none 0 0,.int .i64 (c:Int),.int .i64 (a:Int)]
theorem zxi {l:List UInt8} {a:Nat} (ha:a<l.length):zgv (l.drop a)=if digV (l[a].toNat:Int) then (match numV ((l.drop a).take (rowN numB (l.drop a))) with
   | some n=>.word 2 (rowN numB (l.drop a)) (IntKind.i64.wrap n)
   | none=>.bad 23)
  else if letV (l[a].toNat:Int) || (l[a].toNat:Int)==95 then .word 1 (rowN namB (l.drop a)) 0
  else if [47,92].isPrefixOf (l.drop a) || [92,47].isPrefixOf (l.drop a) then .word 3 2 0
  else if znq l[a] then .word 3 1 0
  else .bad 20:=by
 have hd:=zfx ha
 rw [hd];rfl
theorem ye3 {l:List UInt8} {a:Nat} (ha:a<l.length):l.drop a≠[]:=by intro e;have:=congrArg List.length e;simp at this;omega
theorem zpf {l:List UInt8} {a:Nat} (ha:a<l.length) (hs:zg7 (l.drop a)=.no) {kd k:Nat} {n:Int} (hw:zgv (l.drop a)=.word kd k n):j6 (l.drop a) a=(j6 (l.drop (a+k)) (a+k)).pre [⟨kd,(l.drop a).take k,n,a⟩]:=by
 rw [zkg (ye3 ha),hs]
 simp only [hw,List.drop_drop]
theorem zsp {l:List UInt8} {a:Nat} (ha:a<l.length) (hs:zg7 (l.drop a)=.no) {c:Nat} (hw:zgv (l.drop a)=.bad c):j6 (l.drop a) a=.bad c a:=by
 rw [zkg (ye3 ha),hs]
 simp only [hw]
theorem zen {h H:Heap} {s:Value} {acc:List Tok} (e:Own h H s 4 (acc.map yd)) (p:Pre h H) (kd:Nat) (ki:Int) (hk:ki=kd) (w:List UInt8) (n:Int) (a:Nat) (hr:acc.length≤8192):
  ∃s' H',wu (H++[.cells [.int .i64 ki,str w,.int .i64 n,.int .i64 (a:Int)] 0 false,.cells [.int .i64 ki,str w,.int .i64 n,.int .i64 (a:Int)] 0 false]) 4 40 s (za5 (H++[.cells [.int .i64 ki,str w,.int .i64 n,.int .i64 (a:Int)] 0 false,.cells [.int .i64 ki,str w,.int .i64 n,.int .i64 (a:Int)] 0 false]) 4 (.slice (some ⟨H.length+1,0,some 0⟩) 1 4))=some (s',H')∧
   Own h H' s' 4 ((acc++[Tok.mk kd w n a]).map yd)∧Pre h H'∧Heap.read1 H' ⟨H.length,1,some 0⟩=some (str w):=by
 subst hk
 obtain ⟨s',H',h1,h2,h3,h4,h5,h6⟩:=(e.more [.cells [.int .i64 (kd:Int),str w,.int .i64 n,.int .i64 (a:Int)] 0 false]).push (p.more _) (row:=[.int .i64 (kd:Int),str w,.int .i64 n,.int .i64 (a:Int)]) (bytes:=40) rfl (by rw [ypd];unfold wy;omega)
 simp only [yp4,List.cons_append,List.nil_append,yo8,ypb,List.length_nil] at h1
 refine ⟨s',H',h1,?_,h3,?_⟩
 ·rw [yp8];exact h2
 ·have:=h5 H.length (.cells [.int .i64 (kd:Int),str w,.int .i64 n,.int .i64 (a:Int)] 0 false) (by simp) (by intro hb;have:=(e.lt hb).2;omega)
  unfold Heap.read1
  simp only [this];rfl
theorem Own.fin {h H:Heap} {s v:Value} {c:Nat} {rows:List (List Value)} (e:Own h H s c rows) (p:Pre h H) (hv:flat v=true→plain s=true):Own h (AM.finish h v H) s c rows∧Pre h (AM.finish h v H):=by
 obtain ⟨L,rfl⟩:=p
 rcases zpi h L v with hf | ⟨hf,hfl⟩
 ·rw [hf];exact ⟨e,L,rfl⟩
 ·rw [hf]
  have hp:=hv hfl
  rcases e with ⟨⟨rfl,rfl⟩ | ⟨b,ver,hb,rfl,ho⟩,hc⟩
  ·exact ⟨⟨.inl ⟨rfl,rfl⟩,hc⟩,Pre.refl h⟩
  ·cases hp
theorem yml {s a b:Value} (h:flat (tup [s,a,b])=true):plain s=true:=by
 have:(plain s&&(plain a&&(plain b&&true)))=true:=h
 simp at this;exact this.1
theorem ba (z0 z1 z2 z3 a b c d:Value):yp [z0,z1,z2,z3] [(0,4,agg [a,b,c,d])]=some [a,b,c,d]:=by
 rw [yp,zg];simp [splice,yp]
theorem idx0 {l:List UInt8} {a:Nat} (ha:a<l.length) (h:Heap):idxO h (str (l.drop a)) (.int .i64 0)=some (.int .u8 (l[a].toNat:Int),h):=by
 have:=xl h (l:=l.drop a) (k:=0) (by simp;omega) .i64
 rw [yov] at this
 rw [this];simp
theorem zht:∀(m:List UInt8) (c:UInt8),decide (0≤Lib.indexByte m c)=m.contains c
 | [],c=>rfl
 | b::m,c=>by
  rw [Lib.indexByte,List.contains_cons,←zht m c]
  have hg:=Lib.indexByte_ge m c
  by_cases hb:b=c
  ·subst hb;simp
  ·have:(b==c)=false:=by simpa using hb
   have h2:(c==b)=false:=by simpa using fun e=>hb e.symm
   rw [this,h2,ypz]
   by_cases h1:Lib.indexByte m c= -1
   ·rw [h1];rfl
   ·have h3:(Lib.indexByte m c== -1)=false:=by simpa using h1
    rw [h3]
    simp only [yoy,if_false]
    rw [decide_eq_decide];omega
theorem yiv (c:UInt8):c.toNat.toUInt8=c:=by simp
theorem zw6 (l:List UInt8) (p:Int→Bool):(l.take (rowN p l)).length=rowN p l:=by
 have:=zhh p l;simp;omega
set_option maxHeartbeats 8000000 in
set_option maxRecDepth 10000 in
theorem zrs (l:List UInt8) {h:Heap} (g:Gl h):∃v H',DF FF zgd [str l] h=some (v,H')∧(TokR h H' v (zc0 l)∧Pre h H'):=by
 refine yb zq6 ?_
 by_cases hl:8192<l.length
 ·have c1:((8192:Int)<(l.length:Int))=True:=by simp;omega
  simp only [zgp,zb,yos,zz,qt,zf,zu,zh,c1,pkA,pkB]
  unfold zc0;rw [if_pos hl]
  exact ⟨rfl,Pre.refl h⟩
 have c1:((8192:Int)<(l.length:Int))=False:=by simp;omega
 have htv:zc0 l=j6 l 0:=by unfold zc0;rw [if_neg hl]
 rw [htv]
 simp only [zgp,zb,yos,zf,zu,zh,c1,pkA,pkB]
 have stop:∀(a:Nat) (acc:List Tok) (H:Heap) (s:Value),a=l.length→Own h H s 4 (acc.map yd)→Pre h H→(j6 (l.drop a) a).pre acc=j6 l 0→TokR h (finish h (tup [s,.int .i64 0,.int .i64 0]) H) (tup [s,.int .i64 0,.int .i64 0]) (j6 l 0)∧Pre h (finish h (tup [s,.int .i64 0,.int .i64 0]) H):=by
  intro a acc H s ha ho hp hs
  subst ha
  rw [yp5,zjy] at hs
  rw [←hs]
  obtain ⟨f1,f2⟩:=ho.fin hp (v:=tup [s,.int .i64 0,.int .i64 0]) yml
  exact ⟨⟨s,rfl,by rw [ypl];exact f1⟩,f2⟩
 refine gg l.length (fun k st=>∃(a:Nat) (acc:List Tok) (H:Heap) (s:Value) (j:Nat→Value),k≤a∧a≤l.length∧acc.length≤a∧Own h H s 4 (acc.map yd)∧Pre h H∧(j6 (l.drop a) a).pre acc=j6 l 0∧st=⟨[str l,j 1,.slice none 0 0,.int .i64 0,.int .i64 0,s,.int .i64 (a:Int),j 7,j 8,j 9,j 10,j 11,j 12,j 13,j 14,j 15,j 16,j 17,j 18,j 19,j 20,j 21,j 22,j 23,j 24,j 25,j 26,j 27,j 28,j 29,j 30,j 31,j 32,j 33,j 34,j 35,j 36,j 37,j 38,j 39,j 40,j 41,j 42,j 43,j 44,j 45,j 46,j 47,j 48,j 49,j 50,j 51,j 52,j 53,j 54,j 55,j 56,j 57,j 58,j 59,j 60,j 61,j 62,j 63,j 64,j 65,j 66,j 67,j 68,j 69,j 70,j 71,j 72,j 73,j 74,j 75,j 76,j 77,j 78,j 79,j 80,j 81,j 82,j 83,j 84,j 85,j 86,j 87,j 88,j 89,j 90,j 91,j 92,j 93,j 94,j 95,j 96,j 97,j 98,j 99,j 100,j 101,j 102,j 103,j 104,j 105,j 106,j 107,j 108,j 109,j 110,j 111,j 112,j 113,j 114,j 115],H⟩) ?_ ?_ _ ?_
 ·rintro k st hk ⟨a,acc,H,s,j,h1,h2,h3,ho,hp,hs,rfl⟩
  by_cases hal:a<l.length
  ·have d1:((a:Int)<(l.length:Int))=True:=by simp;omega
   have hsk:=zyn hal
   have wa:IntKind.i64.wrap ((a:Int)+1)=((a+1:Nat):Int):=zs (k:=a) (by omega)
   have cf:=zju H (l:=l) (k:=a) (by omega) .i64
   have zni:∀(m:Nat),zg7 (l.drop a)=.go m→1≤m∧a+m≤l.length∧(j6 (l.drop (a+m)) (a+m)).pre acc=j6 l 0:=fun m hm=>by
    have:=zjz hm
    simp only [ypf] at this
    exact ⟨this.1,by omega,by rw [←zri hal hm];exact hs⟩
   by_cases hb:blkB (l[a].toNat:Int)=true
   ·rw [if_pos hb] at hsk
    obtain ⟨_,q2,q3⟩:=zni 1 hsk
    unfold blkB at hb
    have e:∀L:Heap,(Own h (H++L) s 4 (acc.map yd))∧Pre h (H++L):=fun L=>⟨ho.more L,hp.more L⟩
    cases f1:((l[a].toNat:Int)==32)
    ·cases f2:((l[a].toNat:Int)==9)
     ·cases f3:((l[a].toNat:Int)==10)
      ·rw [f1,f2,f3] at hb;simp at hb
      ·simp only [zi,zb,yor,zu,zh,yr,xk,d1,cf,idx0 hal,f1,f2,f3,wa,pkA,pkB]
       exact ⟨a+1,acc,_,s,(junk rfl).elim fun j hj=>⟨j,by omega,by omega,by omega,(e _).1,(e _).2,q3,hj⟩⟩
     ·simp only [zi,zb,yor,zu,zh,yr,xk,d1,cf,idx0 hal,f1,f2,wa,pkA,pkB]
      exact ⟨a+1,acc,_,s,(junk rfl).elim fun j hj=>⟨j,by omega,by omega,by omega,(e _).1,(e _).2,q3,hj⟩⟩
    ·simp only [zi,zb,yor,zu,zh,yr,xk,d1,cf,idx0 hal,f1,wa,pkA,pkB]
     exact ⟨a+1,acc,_,s,(junk rfl).elim fun j hj=>⟨j,by omega,by omega,by omega,(e _).1,(e _).2,q3,hj⟩⟩
   ·rw [if_neg hb] at hsk
    have hb':=Bool.not_eq_true _ |>.mp hb
    unfold blkB at hb'
    rw [ypu,ypu] at hb'
    obtain ⟨⟨f1,f2⟩,f3⟩:=hb'
    cases hpre:[40,42].isPrefixOf (l.drop a)
    ·rw [hpre] at hsk
     have hsk:zg7 (l.drop a)=.no:=hsk
     have hw:=zxi hal
     have worded:∀(kd k:Nat) (n:Int),zgv (l.drop a)=.word kd k n→1≤k∧a+k≤l.length∧(j6 (l.drop (a+k)) (a+k)).pre (acc++[⟨kd,(l.drop a).take k,n,a⟩])=j6 l 0:=fun kd k n hk=>by
      have:=zfc hk
      simp only [ypf] at this
      exact ⟨this.1,by omega,by rw [zpf hal hsk hk,Res.pre_pre] at hs;exact hs⟩
     have refused:∀c:Nat,zgv (l.drop a)=.bad c→∀K:Heap,Pre h K→TokR h (AM.finish h (tup [.slice none 0 0,.int .i64 (c:Int),.int .i64 (a:Int)]) K) (tup [.slice none 0 0,.int .i64 (c:Int),.int .i64 (a:Int)]) (j6 l 0)∧Pre h (AM.finish h (tup [.slice none 0 0,.int .i64 (c:Int),.int .i64 (a:Int)]) K):=fun c hc K pK=>by
      rw [zsp hal hsk hc] at hs
      rw [←hs]
      exact ⟨rfl,((Own.nil h K 4).fin pK fun _=>rfl).2⟩
     have tlen:∀p:Int→Bool,rowN p (l.drop a)≤(l.drop a).length:=fun p=>zhh p _
     have wsum:∀k:Nat,a+k≤l.length→IntKind.i64.wrap ((a:Int)+(k:Int))=((a+k:Nat):Int):=fun k hk=>by rw [zkf (by omega)];omega
     have cw:∀(k:Nat) (K:Heap),k≤l.length - a→cutS K none (some (.int .i64 (k:Int))) (str (l.drop a))=some (str ((l.drop a).take k),K):=fun k K hk=>ybd K (by simp;omega) .i64
     cases g1:digV (l[a].toNat:Int)
     ·rw [g1] at hw
      simp only [yoy,if_false] at hw
      cases g2:(letV (l[a].toNat:Int) || (l[a].toNat:Int)==95)
      ·rw [g2] at hw
       simp only [yoy,if_false] at hw
       rw [ypu] at g2
       cases g3:([47,92].isPrefixOf (l.drop a) || [92,47].isPrefixOf (l.drop a))
       ·rw [g3] at hw
        simp only [yoy,if_false] at hw
        rw [ypu] at g3
        cases g4:znq l[a]
        ·rw [g4] at hw
         have g5:decide (0≤Lib.indexByte marksL l[a])=false:=by rw [zht];exact g4
         simp only [zi,zb,yor,qt,wt,zu,zh,yr,xk,d1,cf,idx0 hal,f1,f2,f3,xz,hpre,k7,g1,fp,g2.1,g2.2,g3.1,g3.2,znh,zd0,yiv,g5,pkA,pkB]
         exact refused 20 hw _ (hp.more _)
        ·rw [g4] at hw
         have g5:decide (0≤Lib.indexByte marksL l[a])=true:=by rw [zht];exact g4
         obtain ⟨q1,q2,q3⟩:=worded _ _ _ hw
         obtain ⟨s',H',p1,p2,p3,p4⟩:=zen ho hp 3 3 rfl ((l.drop a).take 1) 0 a (by omega)
         have hlen:(((l.drop a).take 1).length:Int)=((1:Nat):Int):=by simp;omega
         have cw1:=fun K=>cw 1 K (by omega)
         rw [yov] at cw1
         simp only [zi,zb,ypc,yor,slc,zc,z6,zu,zh,yr,xk,d1,cf,idx0 hal,f1,f2,f3,xz,hpre,k7,g1,fp,g2.1,g2.2,g3.1,g3.2,znh,zd0,yiv,g5,ba,cw1,p1,p4,hlen,wsum 1 q2,pkA,pkB]
         exact ⟨a+1,_,H',s',(junk rfl).elim fun j hj=>⟨j,by omega,by omega,by simp;omega,p2,p3,q3,hj⟩⟩
       ·rw [g3] at hw
        obtain ⟨q1,q2,q3⟩:=worded _ _ _ hw
        obtain ⟨s',H',p1,p2,p3,p4⟩:=zen ho hp 3 3 rfl ((l.drop a).take 2) 0 a (by omega)
        have hlen:(((l.drop a).take 2).length:Int)=((2:Nat):Int):=by simp;omega
        have cw1:=fun K=>cw 2 K (by omega)
        rw [yov] at cw1
        cases g4:[47,92].isPrefixOf (l.drop a)
        ·rw [g4,ypz] at g3
         simp only [zi,zb,ypc,yor,slc,zc,z6,zu,zh,yr,xk,d1,cf,idx0 hal,f1,f2,f3,xz,hpre,k7,g1,fp,g2.1,g2.2,g4,g3,ba,cw1,p1,p4,hlen,wsum 2 q2,pkA,pkB]
         exact ⟨a+2,_,H',s',(junk rfl).elim fun j hj=>⟨j,by omega,by omega,by simp;omega,p2,p3,q3,hj⟩⟩
        ·simp only [zi,zb,ypc,yor,slc,zc,z6,zu,zh,yr,xk,d1,cf,idx0 hal,f1,f2,f3,xz,hpre,k7,g1,fp,g2.1,g2.2,g4,ba,cw1,p1,p4,hlen,wsum 2 q2,pkA,pkB]
         exact ⟨a+2,_,H',s',(junk rfl).elim fun j hj=>⟨j,by omega,by omega,by simp;omega,p2,p3,q3,hj⟩⟩
      ·rw [g2] at hw
       simp only [if_true] at hw
       obtain ⟨q1,q2,q3⟩:=worded _ _ _ hw
       have hrow:=fun K=>zpr (F:=zb0) yg8 (l.drop a) (by simp;omega) K
       obtain ⟨s',H',p1,p2,p3,p4⟩:=zen ho hp 1 1 rfl ((l.drop a).take (rowN namB (l.drop a))) 0 a (by omega)
       have hlen:=congrArg (Nat.cast:Nat→Int) (zw6 (l.drop a) namB)
       have cw1:=fun K=>cw (rowN namB (l.drop a)) K (by omega)
       have hws:=wsum _ q2
       generalize rowN namB (l.drop a)=n at hrow p1 p2 p4 hlen cw1 hws q1 q2 q3
       cases g3:letV (l[a].toNat:Int)
       ·rw [g3,ypz] at g2
        simp only [zi,zb,ypc,yor,slc,zc,z6,zu,zh,yr,xk,d1,cf,idx0 hal,f1,f2,f3,xz,hpre,k7,g1,fp,g3,g2,hrow,ba,cw1,p1,p4,hlen,hws,pkA,pkB]
        exact ⟨a+n,_,H',s',(junk rfl).elim fun j hj=>⟨j,by omega,by omega,by simp;omega,p2,p3,q3,hj⟩⟩
       ·simp only [zi,zb,ypc,yor,slc,zc,z6,zu,zh,yr,xk,d1,cf,idx0 hal,f1,f2,f3,xz,hpre,k7,g1,fp,g3,hrow,ba,cw1,p1,p4,hlen,hws,pkA,pkB]
        exact ⟨a+n,_,H',s',(junk rfl).elim fun j hj=>⟨j,by omega,by omega,by simp;omega,p2,p3,q3,hj⟩⟩
     ·rw [g1] at hw
      simp only [if_true] at hw
      have hrow:=fun K=>zpr (F:=zcb) ygq (l.drop a) (by simp;omega) K
      have cw1:=fun K=>cw (rowN numB (l.drop a)) K (by have:=tlen numB;simp at this;omega)
      have hlen:=congrArg (Nat.cast:Nat→Int) (zw6 (l.drop a) numB)
      have hnum:=fun L=>zrf ((l.drop a).take (rowN numB (l.drop a))) ((g.pre hp).more L) (by simp;omega)
      obtain ⟨v,hn1,m,rfl,hn2⟩:=hnum [.cells [.int .i64 2,str ((l.drop a).take (rowN numB (l.drop a))),.int .i64 0,.int .i64 (a:Int)] 0 false]
      cases g2:numV ((l.drop a).take (rowN numB (l.drop a))) with
      | none=>
       rw [g2] at hw hn1
       simp only [zi,zb,ypc,yor,qt,wt,z6,zu,zh,yr,xk,d1,cf,idx0 hal,f1,f2,f3,xz,hpre,k7,g1,hrow,cw1,hn1,Option.isSome_none,pkA,pkB]
       exact refused 23 hw _ (hp.more _)
      | some u=>
       rw [g2] at hw hn1
       have hm:=hn2 u g2
       subst hm
       obtain ⟨q1,q2,q3⟩:=worded _ _ _ hw
       obtain ⟨s',H',p1,p2,p3,p4⟩:=zen ho hp 2 2 rfl ((l.drop a).take (rowN numB (l.drop a))) (IntKind.i64.wrap u) a (by omega)
       have hws:=wsum _ q2
       simp only [zi,zb,ypc,yor,slc,zc,z6,zu,zh,yr,xk,d1,cf,idx0 hal,f1,f2,f3,xz,hpre,k7,g1,hrow,cw1,hn1,Option.isSome_some,ba,p1,p4,hlen,hws,pkA,pkB]
       exact ⟨a+rowN numB (l.drop a),_,H',s',(junk rfl).elim fun j hj=>⟨j,by omega,by omega,by simp;omega,p2,p3,q3,hj⟩⟩
    ·rw [hpre,if_pos rfl] at hsk
     have c2:=fun K=>zju K (l:=l.drop a) (k:=2) (by have:=zq7 hpre;simpa using this) .i64
     have hidx:=fun L=>zhx ((l.drop a).drop 2) [42,41] ((g.pre hp).more L) (by simp;omega)
     have hix:=ztm ((l.drop a).drop 2)
     simp only [List.drop_drop,ypf] at hix hidx c2
     simp only [yov] at c2
     have hrl:=zvx (l.drop (a+2))
     simp only [ypf] at hrl
     by_cases hr:remK (l.drop (a+2))+1<l.length - (a+2)
     ·rw [if_pos hr] at hix hsk
      obtain ⟨q1,q2,q3⟩:=zni _ hsk
      have e1:((remK (l.drop (a+2)):Int)<0)=False:=by simp
      have w1:IntKind.i64.wrap ((remK (l.drop (a+2)):Int)+4)=((remK (l.drop (a+2))+4:Nat):Int):=by rw [zkf (by omega)];omega
      have w2:IntKind.i64.wrap ((a:Int)+((remK (l.drop (a+2))+4:Nat):Int))=((a+(remK (l.drop (a+2))+4):Nat):Int):=by rw [zkf (by omega)];omega
      simp only [zi,zb,yor,zu,zh,yr,xk,d1,cf,idx0 hal,f1,f2,f3,xz,hpre,c2,hidx,hix,e1,w1,w2,pkA,pkB]
      exact ⟨a+(remK (l.drop (a+2))+4),acc,_,s,(junk rfl).elim fun j hj=>⟨j,by omega,by omega,by omega,ho.more _,hp.more _,q3,hj⟩⟩
     ·rw [if_neg hr] at hix hsk
      rw [ztx hal hsk] at hs
      rw [←hs]
      simp only [zi,zb,yor,qt,yqd,wt,zu,zh,yr,xk,d1,cf,idx0 hal,f1,f2,f3,xz,hpre,c2,hidx,hix,pkA,pkB]
      exact ⟨rfl,((Own.nil h _ 4).fin (hp.more _) fun _=>rfl).2⟩
  ·have d1:((a:Int)<(l.length:Int))=False:=by simp;omega
   simp only [zb,qt,zq,zu,zh,d1,pkA]
   exact stop a acc H s (by omega) ho hp hs
 ·rintro st ⟨a,acc,H,s,j,h1,h2,h3,ho,hp,hs,rfl⟩
  have d1:((a:Int)<(l.length:Int))=False:=by simp;omega
  simp only [zb,qt,zq,zu,zh,d1,pkA]
  exact stop a acc H s (by omega) ho hp hs
 ·exact ⟨0,[],h,_,(junk rfl).elim fun j hj=>⟨j,by omega,by omega,by simp,Own.nil h h 4,Pre.refl h,by rw [List.drop_zero];cases j6 l 0 <;> rfl,hj⟩⟩
/-- A word that was cut from some text. -/
def yn6 (t:Tok):Prop:=∃(r:List UInt8) (k:Nat),zg7 r=.no∧zgv r=.word t.kind k t.n∧t.text=r.take k
def sumT:List Tok→Nat
 | []=>0
 | t::m=>t.text.length+sumT m
theorem ylr {r:Res} {a m:List Tok} (h:r.pre a=.ok m):∃m',r=.ok m'∧m=a++m':=by
 cases r with
 | ok m'=>cases h;exact ⟨m',rfl,rfl⟩
 | bad c x=>cases h
theorem znt:∀(n:Nat) (s:List UInt8) (a:Nat) (m:List Tok),s.length≤n→j6 s a=.ok m→(∀t∈m,yn6 t∧1≤t.text.length)∧sumT m≤s.length
 | 0,s,a,m,hn,h=>by
  have:s=[]:=ypj (by omega)
  subst this
  rw [zjy] at h;cases h
  exact ⟨fun t ht=>(List.not_mem_nil ht).elim,by simp [sumT]⟩
 | n+1,s,a,m,hn,h=>by
  by_cases hs:s=[]
  ·subst hs;rw [zjy] at h;cases h
   exact ⟨fun t ht=>(List.not_mem_nil ht).elim,by simp [sumT]⟩
  ·rw [zkg hs] at h
   cases hk:zg7 s with
   | go k=>
    rw [hk] at h
    have hp:=zjz hk
    obtain ⟨h1,h2⟩:=znt n _ _ m (by simp;omega) h
    simp only [ypf] at h2
    exact ⟨h1,by omega⟩
   | err=>rw [hk] at h;cases h
   | no=>
    rw [hk] at h
    cases hw:zgv s with
    | bad c=>rw [hw] at h;cases h
    | word kd k x=>
     rw [hw] at h
     have hp:=zfc hw
     obtain ⟨m',h1,rfl⟩:=ylr h
     obtain ⟨h2,h3⟩:=znt n _ _ m' (by simp;omega) h1
     simp only [ypf] at h3
     refine ⟨fun t ht=> ?_,?_⟩
     ·rcases ype.1 ht with ht | ht
      ·simp at ht;subst ht
       exact ⟨⟨s,k,hk,hw,rfl⟩,by simp;omega⟩
      ·exact h2 t ht
     ·simp [sumT];omega
theorem zn1:∀m:List Tok,(∀t∈m,1≤t.text.length)→m.length≤sumT m
 | [],_=>by simp
 | t::m,h=>by
  have:=zn1 m fun x hx=>h x (by simp [hx])
  have:=h t (by simp)
  simp [sumT];omega
abbrev Bys:=List UInt8
inductive Op1 | plus | star | maybe | inv
 deriving DecidableEq
inductive Op2 | or | and | minus | seq | cross
 deriving DecidableEq
inductive Ex
 | name (s:Bool) (a:Nat) (w:Bys)
 | zero (a:Nat)
 | par (s:Bool) (a:Nat) (e:Ex)
 | box (a:Nat) (e:Ex)
 | un (o:Op1) (e:Ex)
 | bin (s:Bool) (o:Op2) (l r:Ex)
def Ex.pl:Ex→Nat
 | .name _ a _=>a
 | .zero a=>a
 | .par _ a _=>a
 | .box a _=>a
 | .un _ e=>e.pl
 | .bin _ _ l _=>l.pl
def Ex.set:Ex→Bool
 | .name s _ _=>s
 | .par s _ _=>s
 | .bin s _ _ _=>s
 | _=>false
def keyT (t:Tok):Bys:=if t.kind=2 then [] else t.text
def wLet:Bys:=[108,101,116]
def wRec:Bys:=[114,101,99]
def wAnd:Bys:=[97,110,100]
def bd:Bys:=[97,99,121,99,108,105,99]
def wIrr:Bys:=[105,114,114,101,102,108,101,120,105,118,101]
def zcx:Bys:=[101,109,112,116,121]
def wAs:Bys:=[97,115]
def kwL:List Bys:=[wLet,wRec,wAnd,bd,wIrr,zcx,wAs]
def bw (t:Tok):Bool:=t.kind==1&& !kwL.contains t.text
def zgh:List Tok→Bool
 | []=>false
 | t::_=>t.kind==2 || (bw t || (keyT t==[40] || keyT t==[91]))
inductive PR (α:Type)
 | ok (x:α) (r:List Tok)
 | bad (c a:Nat)
def orM (k:Bys):Option Op2:=if k==[124] then some .or else none
def andM (k:Bys):Option Op2:=if k==[38] then some .and else if k==[92] then some .minus else none
def seqM (k:Bys):Option Op2:=if k==[59] then some .seq else none
def binL (part:List Tok→PR Ex) (m:Bys→Option Op2):Nat→Ex→List Tok→PR Ex
 | 0,n,ts=>.ok n ts
 | _+1,n,[]=>.ok n []
 | k+1,n,t::r=>match m (keyT t) with
  | none=>.ok n (t::r)
  | some o=>match part r with
   | .ok x r'=>binL part m k (.bin false o n x) r'
   | .bad c a=>.bad c a
def zas (part:List Tok→PR Ex) (m:Bys→Option Op2) (ts:List Tok):PR Ex:=match part ts with
 | .ok n r=>binL part m r.length n r
 | .bad c a=>.bad c a
def inv3 (e:Nat) (f:List Tok→PR Ex):List Tok→PR Ex
 | []=>.bad 24 e
 | t::r=>if t.kind==2&&t.n==1 then f r else .bad 22 t.at_
def inv2 (e:Nat) (f:List Tok→PR Ex):List Tok→PR Ex
 | []=>.bad 24 e
 | t::r=>if keyT t==[45] then inv3 e f r else .bad 22 t.at_
def pj (e:Nat):Nat→Ex→List Tok→PR Ex
 | 0,n,ts=>.ok n ts
 | _+1,n,[]=>.ok n []
 | k+1,n,t::r=>if keyT t==[43] then pj e k (.un .plus n) r
  else if keyT t==[63] then pj e k (.un .maybe n) r
  else if keyT t==[42]&& !zgh r then pj e k (.un .star n) r
  else if keyT t==[94] then inv2 e (fun r3=>pj e k (.un .inv n) r3) r
  else .ok n (t::r)
def znp (e:Nat) (prim:List Tok→PR Ex) (ts:List Tok):PR Ex:=match prim ts with
 | .ok n r=>pj e r.length n r
 | .bad c a=>.bad c a
def zo6 (post:List Tok→PR Ex) (ts:List Tok):PR Ex:=match post ts with
 | .ok n []=>.ok n []
 | .ok n (t::r)=>if keyT t==[42] then match post r with
   | .ok m r2=>.ok (.bin false .cross n m) r2
   | .bad c a=>.bad c a
  else .ok n (t::r)
 | .bad c a=>.bad c a
def zly (e:Nat) (cl:Bys) (n:Ex):List Tok→PR Ex
 | []=>.bad 24 e
 | t::r=>if keyT t==cl then .ok n r else .bad 22 t.at_
def brP (e:Nat) (cl:Bys) (mk:Ex→Ex):PR Ex→PR Ex
 | .bad c a=>.bad c a
 | .ok n r=>zly e cl (mk n) r
def brkP (e:Nat) (t:Tok) (r:List Tok):Option (List Tok→PR Ex)→PR Ex
 | none=>.bad 2 t.at_
 | some f=>if keyT t==[40] then brP e [41] (.par false t.at_) (f r) else brP e [93] (.box t.at_) (f r)
def zmk (e:Nat) (inner:Option (List Tok→PR Ex)):List Tok→PR Ex
 | []=>.bad 24 e
 | t::r=>if keyT t==[40] || keyT t==[91] then brkP e t r inner
  else if t.kind==2&&t.n==0 then .ok (.zero t.at_) r
  else if bw t then .ok (.name false t.at_ t.text) r
  else .bad 22 t.at_
def ydf (e:Nat) (prim:List Tok→PR Ex):List Tok→PR Ex:=zas (zas (zas (zo6 (znp e prim)) seqM) andM) orM
def zhj (e:Nat):Nat→List Tok→PR Ex
 | 0=>ydf e (zmk e none)
 | d+1=>ydf e (zmk e (some (zhj e d)))
def zpo (e:Nat):List Tok→PR (Bys×Nat)
 | []=>.bad 24 e
 | t::r=>if bw t then .ok (t.text,t.at_) r else .bad 22 t.at_
def eatP (e:Nat) (m:Bys):List Tok→PR Unit
 | []=>.bad 24 e
 | t::r=>if keyT t==m then .ok () r else .bad 22 t.at_
structure Gv where
 name:Bys
 at_:Nat
 e:Ex
inductive Ck | acyclic | irr | empty
 deriving DecidableEq
inductive Stm
 | lets (rc:Bool) (gs:List Gv)
 | chk (k:Ck) (x:Ex) (as_:Bys)
def znc (e:Nat) (ts:List Tok):PR Gv:=match zpo e ts with
 | .bad c a=>.bad c a
 | .ok w r=>match eatP e [61] r with
  | .bad c a=>.bad c a
  | .ok _ r1=>match zhj e 32 r1 with
   | .bad c a=>.bad c a
   | .ok x r2=>.ok ⟨w.1,w.2,x⟩ r2
def bo (e:Nat):Nat→List Tok→PR (List Gv)
 | 0,ts=>.ok [] ts
 | k+1,ts=>match znc e ts with
  | .bad c a=>.bad c a
  | .ok g []=>.ok [g] []
  | .ok g (t::r)=>if keyT t==wAnd then match bo e k r with
    | .bad c a=>.bad c a
    | .ok gs r2=>.ok (g::gs) r2
   else .ok [g] (t::r)
def zi8 (e:Nat) (rc:Bool) (ts:List Tok):PR Stm:=match bo e (ts.length+1) ts with
 | .bad c a=>.bad c a
 | .ok gs r=>.ok (.lets rc gs) r
def zc7 (e:Nat) (k:Ck) (ts:List Tok):PR Stm:=match zhj e 32 ts with
 | .bad c a=>.bad c a
 | .ok x []=>.ok (.chk k x []) []
 | .ok x (t::r)=>if keyT t==wAs then match zpo e r with
   | .bad c a=>.bad c a
   | .ok w r2=>.ok (.chk k x w.1) r2
  else .ok (.chk k x []) (t::r)
def letP (e:Nat):List Tok→PR Stm
 | []=>zi8 e false []
 | t::r=>if keyT t==wRec then zi8 e true r else zi8 e false (t::r)
def ze1 (e:Nat):List Tok→PR Stm
 | []=>.bad 24 e
 | t::r=>if keyT t==wLet then letP e r
  else if keyT t==bd then zc7 e .acyclic r
  else if keyT t==wIrr then zc7 e .irr r
  else if keyT t==zcx then zc7 e .empty r
  else .bad 22 t.at_
def jw (e:Nat):Nat→List Tok→PR (List Stm)
 | 0,ts=>.ok [] ts
 | _+1,[]=>.ok [] []
 | k+1,t::r=>match ze1 e (t::r) with
  | .bad c a=>.bad c a
  | .ok s r=>match jw e k r with
   | .bad c a=>.bad c a
   | .ok l r2=>.ok (s::l) r2
def zku (e:Nat) (ts:List Tok):PR (List Stm):=jw e ts.length ts
abbrev Kn:=List (Bys×Bool)
def wn (kn:Kn) (w:Bys):Option Bool:=match kn with
 | []=>none
 | (v,s)::r=>if w==v then some s else wn r w
inductive CR (α:Type)
 | ok (x:α)
 | bad (c a:Nat)
def chkE (kn:Kn) (rc:List Bys):Bool→Ex→CR Ex
 | rt,.name _ a w=>match wn kn w with
  | none=>.bad 40 a
  | some s=>if rt&&rc.contains w then .bad 43 a else .ok (.name s a w)
 | _,.zero a=>.ok (.zero a)
 | rt,.par _ a e=>match chkE kn rc rt e with
  | .bad c p=>.bad c p
  | .ok e'=>.ok (.par e'.set a e')
 | rt,.box a e=>match chkE kn rc rt e with
  | .bad c p=>.bad c p
  | .ok e'=>if e'.set then .ok (.box a e') else .bad 41 e.pl
 | rt,.un o e=>match chkE kn rc rt e with
  | .bad c p=>.bad c p
  | .ok e'=>if e'.set then .bad 41 e.pl else .ok (.un o e')
 | rt,.bin s o l r=>match chkE kn rc rt l with
  | .bad c p=>.bad c p
  | .ok l'=>match chkE kn rc (rt || o== .minus) r with
   | .bad c p=>.bad c p
   | .ok r'=>match o with
    | .seq=>if l'.set then .bad 41 l.pl else if r'.set then .bad 41 r.pl else .ok (.bin s o l' r')
    | .cross=>if !l'.set then .bad 41 l.pl else if !r'.set then .bad 41 r.pl else .ok (.bin s o l' r')
    | _=>if r'.set !=l'.set then .bad 41 r.pl else .ok (.bin l'.set o l' r')
def bv (kn:Kn):Nat→List Bys→List Gv→CR Unit
 | _,_,[]=>.ok ()
 | n,here,g::gs=>if (wn kn g.name).isSome || here.contains g.name then .bad 42 g.at_
  else if 64≤n then .bad 2 g.at_
  else bv kn (n+1) (here++[g.name]) gs
def zaf (kn:Kn) (rc:List Bys) (rec_:Bool):List Gv→CR (List Gv)
 | []=>.ok []
 | g::gs=>match chkE kn rc false g.e with
  | .bad c a=>.bad c a
  | .ok x=>if rec_&&x.set then .bad 41 g.e.pl else match zaf kn rc rec_ gs with
   | .bad c a=>.bad c a
   | .ok l=>.ok (⟨g.name,g.at_,x⟩::l)
def x5 (gs:List Gv):Kn:=gs.map fun g=>(g.name,g.e.set)
def chkS (kn:Kn) (n:Nat):Stm→CR Stm
 | .lets rec_ gs=>match bv kn n [] gs with
  | .bad c a=>.bad c a
  | .ok _=>match zaf (if rec_ then kn++gs.map fun g=>(g.name,false) else kn) (if rec_ then gs.map (·.name) else []) rec_ gs with
   | .bad c a=>.bad c a
   | .ok l=>.ok (.lets rec_ l)
 | .chk k x as_=>match chkE kn [] false x with
  | .bad c a=>.bad c a
  | .ok x'=>if k !=.empty&&x'.set then .bad 41 x.pl else .ok (.chk k x' as_)
def Stm.given:Stm→Kn
 | .lets _ gs=>x5 gs
 | .chk _ _ _=>[]
def chkM (kn:Kn) (n:Nat):List Stm→CR (List Stm)
 | []=>.ok []
 | s::l=>match chkS kn n s with
  | .bad c a=>.bad c a
  | .ok s'=>match chkM (kn++s'.given) (n+s'.given.length) l with
   | .bad c a=>.bad c a
   | .ok l'=>.ok (s'::l')
def fg (kn:Kn):Kn→Kn
 | []=>kn
 | d::r=>fg (if (wn kn d.1).isSome then kn else kn++[d]) r
structure Md where
 known:Kn
 l:List Stm
def pg (text:Bys) (names:Kn):CR Md:=if 4096<text.length then .bad 2 0 else match j6 text 0 with
 | .bad c a=>.bad c a
 | .ok ts=>match zku text.length ts with
  | .bad c a=>.bad c a
  | .ok l _=>match chkM (fg [] names) 0 l with
   | .bad c a=>.bad c a
   | .ok l'=>.ok ⟨fg [] names,l'⟩
/-- Nothing is lost. -/
def Kept (H H':Heap):Prop:=∀(i:Nat) (o:AObj),H[i]?=some o→H'[i]?=some o
theorem Kept.more (H L:Heap):Kept H (H++L):=fun i o h=>by rw [yo9 (yoq.1 h).1];exact h
theorem Pre.kept {h H:Heap} (p:Pre h H):Kept h H:=by obtain ⟨L,rfl⟩:=p;exact Kept.more h L
section
variable {K:Heap} {b c j:Nat} {l:List Value} {o:AObj} {v:Option Nat}
theorem yg2 (h:(b=c)=False):Heap.read1 (K.set b o) ⟨c,j,v⟩=Heap.read1 K ⟨c,j,v⟩:=by
 unfold Heap.read1;simp only;rw [you (by rw [ne_eq,h];exact not_false)]
theorem bq {n:Nat} (hb:b<K.length) (hl:l.length=n):Heap.read (K.set b (.cells l 0 false)) ⟨b,0,some 0⟩ n=some l:=by
 subst hl;simp [Heap.read,hb]
theorem zi5 {x:Value} (hb:b<K.length) (hj:j<l.length):Heap.write1 (K.set b (.cells l 0 false)) ⟨b,j,some 0⟩ x=some (K.set b (.cells (l.set j x) 0 false)):=by
 simp [Heap.write1,hb,hj]
theorem jo {x:Value} (e:K[b]?=some (.cells l 0 false)) (hj:j<l.length):Heap.write1 K ⟨b,j,some 0⟩ x=some (K.set b (.cells (l.set j x) 0 false)):=by
 simp [Heap.write1,e,hj]
theorem zd6 {xs:List Value} (e:K[b]?=some (.cells l 0 false)) (hl:l.length=xs.length):Heap.write K ⟨b,0,some 0⟩ xs=some (K.set b (.cells xs 0 false)):=by
 simp [Heap.write,e,hl,splice,yo5 (Nat.le_of_eq hl)]
theorem zr (e:K[b]?=some (.cells l 0 false)):Heap.read1 K ⟨b,j,some 0⟩=l[j]?:=by simp [Heap.read1,e]
theorem zkc {n:Nat} (e:K[b]?=some (.cells l 0 false)) (hl:l.length=n):Heap.read K ⟨b,0,some 0⟩ n=some l:=by
 subst hl;simp [Heap.read,e]
theorem zxn (e:K[b]?=some o):K.set b o=K:=by
 apply List.ext_getElem?
 intro i
 by_cases h:b=i
 ·subst h;rw [yox (yoq.1 e).1,e]
 ·rw [you h]
end
theorem kv (h H:Heap) (t:List Value) (R:Value→Heap→Prop):retE h [] R .ret ⟨t,H⟩=R (tup []) (AM.finish h (tup []) H):=by
 unfold retE
 apply propext
 constructor
 ·rintro ⟨v,h',e,r⟩
  simp [endF,f9] at e
  obtain ⟨rfl,rfl⟩:=e;exact r
 ·intro r;exact ⟨_,_,by simp [endF,f9],r⟩
theorem zx (h H:Heap) (t:List Value) (R:Value→Heap→Prop):retE h [] R .normal ⟨t,H⟩=R (tup []) (AM.finish h (tup []) H):=by
 unfold retE
 apply propext
 constructor
 ·rintro ⟨v,h',e,r⟩
  simp [endF,f9] at e
  obtain ⟨rfl,rfl⟩:=e;exact r
 ·intro r;exact ⟨_,_,by simp [endF,f9],r⟩
theorem ym3 (h L:Heap):AM.finish h (tup []) (h++L)=h:=ft h L rfl
def ya2 (R:Value→Heap→Prop) (h H:Heap):Option (List Value)→Prop
 | some l=>R (agg l) (finish h (agg l) H)
 | none=>False
def zor (R:Value→Heap→Prop) (h H:Heap) (n:Nat):Value→Prop
 | .pointer (some p)=>ya2 R h H (H.read p n)
 | _=>False
theorem qu (h H:Heap) (i n:Nat) (t:List Value) (R:Value→Heap→Prop):retE h [.cells i n] R .ret ⟨t,H⟩=zor R h H n (t.getD i undef):=by
 unfold retE
 apply propext
 simp only [endF,f9,aRes]
 generalize t.getD i undef=x
 cases x with
 | pointer p=>
  cases p with
  | none=>simp [zor]
  | some p=>
   simp only [zor]
   cases hr:H.read p n with
   | none=>simp [ya2]
   | some l=>
    simp only [ya2]
    constructor
    ·rintro ⟨v,h',e,r⟩
     simp at e
     obtain ⟨rfl,rfl⟩:=e
     exact r
    ·intro r
     exact ⟨_,_,by simp,r⟩
 | _=>simp [zor]
theorem yy (R:Value→Heap→Prop) (h H:Heap) (n:Nat) (p:Addr):zor R h H n (.pointer (some p))=ya2 R h H (H.read p n):=rfl
theorem xb (R:Value→Heap→Prop) (h H:Heap) (l:List Value):ya2 R h H (some l)=R (agg l) (finish h (agg l) H):=rfl
theorem ym {l:List Value} {i:Nat} {s:List UInt8} (r:List (Nat×Nat×Value)) (hi:i<l.length):yp l ((i,1,str s)::r)=yp (l.set i (str s)) r:=zgj r hi rfl
theorem jk {l:List Value} {i:Nat} {p:Option Addr} (r:List (Nat×Nat×Value)) (hi:i<l.length):yp l ((i,1,.pointer p)::r)=yp (l.set i (.pointer p)) r:=zgj r hi rfl
theorem zw7 {l:List Value} {i:Nat} {p:Option Nat} (r:List (Nat×Nat×Value)) (hi:i<l.length):yp l ((i,1,.map p)::r)=yp (l.set i (.map p)) r:=zgj r hi rfl
abbrev pt (b:Nat):Value:=.pointer (some ⟨b,0,some 0⟩)
def zt5 (t:Tok):Prop:=(t.kind=1∧∃c l,t.text=c::l∧(letV (c.toNat:Int) || (c.toNat:Int)==95)=true)∨t.kind=2∨(t.kind=3∧∃c l,t.text=c::l∧znq c=true)
structure RP where
 r:Nat
 c:Nat
 en:Nat
 ws:Value
 cs:Value
 L:List Tok
 ne:r≠c
 wr:blk ws≠some r
 wc:blk ws≠some c
 cr:blk cs≠some r
 cc:blk cs≠some c
 ok:∀t∈L,zt5 t
 len:L.length≤8192
structure Rd (P:RP) (h:Heap) (i d x a:Nat):Prop where
 hr:h[P.r]?=some (.cells [pt P.c,P.ws,.int .i64 (P.en:Int),.int .i64 (d:Int),.int .i64 (x:Int),.int .i64 (a:Int)] 0 false)
 hc:h[P.c]?=some (.cells [P.cs,.int .i64 (i:Int)] 0 false)
 sw:Sl h P.ws 4 (P.L.map yd)
 sc:Sl h P.cs 4 (P.L.map yd)
 le:i≤P.L.length
structure Mv (P:RP) (h h':Heap):Prop where
 keep:∀(b:Nat) (o:AObj),h[b]?=some o→b≠P.r→b≠P.c→h'[b]?=some o
 le:h.length≤h'.length
theorem Mv.refl (P:RP) (h:Heap):Mv P h h:=⟨fun _ _ e _ _=>e,yoz _⟩
theorem Mv.trans {P:RP} {h h' h'':Heap} (a:Mv P h h') (b:Mv P h' h''):Mv P h h'':=⟨fun x o e n1 n2=>b.keep x o (a.keep x o e n1 n2) n1 n2,yqf a.le b.le⟩
theorem Mv.more {P:RP} {h h':Heap} (a:Mv P h h') (L:Heap):Mv P h (h'++L):=a.trans ⟨fun x o e _ _=>Kept.more _ _ x o e,by simp⟩
theorem Mv.add (P:RP) (h L:Heap):Mv P h (h++L):=(Mv.refl P h).more L
theorem zm {h:Heap} {b:Nat} {o:AObj} (L:Heap) (e:h[b]?=some o):(h++L)[b]?=some o:=Kept.more h L b o e
section
variable {P:RP} {h:Heap} {i d x a:Nat}
theorem Rd.more (e:Rd P h i d x a) (L:Heap):Rd P (h++L) i d x a:=⟨zm L e.hr,zm L e.hc,e.sw.more L,e.sc.more L,e.le⟩
theorem Rd.r1 (e:Rd P h i d x a) (L:Heap) (j:Nat):Heap.read1 (h++L) ⟨P.r,j,some 0⟩=([pt P.c,P.ws,.int .i64 (P.en:Int),.int .i64 (d:Int),.int .i64 (x:Int),.int .i64 (a:Int)]:List Value)[j]?:=zr (zm L e.hr)
theorem Rd.r0 (e:Rd P h i d x a) (j:Nat):Heap.read1 h ⟨P.r,j,some 0⟩=([pt P.c,P.ws,.int .i64 (P.en:Int),.int .i64 (d:Int),.int .i64 (x:Int),.int .i64 (a:Int)]:List Value)[j]?:=zr e.hr
theorem Rd.c1 (e:Rd P h i d x a) (L:Heap) (j:Nat):Heap.read1 (h++L) ⟨P.c,j,some 0⟩=([P.cs,.int .i64 (i:Int)]:List Value)[j]?:=zr (zm L e.hc)
theorem Rd.c0 (e:Rd P h i d x a) (j:Nat):Heap.read1 h ⟨P.c,j,some 0⟩=([P.cs,.int .i64 (i:Int)]:List Value)[j]?:=zr e.hc
theorem Rd.cl (e:Rd P h i d x a) (K:Heap):lenO K P.cs=some (.int .i64 (P.L.length:Int),K):=by rw [e.sc.len,ypd]
theorem Rd.wl (e:Rd P h i d x a) (K:Heap):lenO K P.ws=some (.int .i64 (P.L.length:Int),K):=by rw [e.sw.len,ypd]
theorem Rd.lr (e:Rd P h i d x a):P.r<h.length:=(yoq.1 e.hr).1
theorem Rd.lc (e:Rd P h i d x a):P.c<h.length:=(yoq.1 e.hc).1
theorem Rd.move {h':Heap} {i' d' x' a':Nat} (e:Rd P h i d x a) (m:Mv P h h')
  (hr:h'[P.r]?=some (.cells [pt P.c,P.ws,.int .i64 (P.en:Int),.int .i64 (d':Int),.int .i64 (x':Int),.int .i64 (a':Int)] 0 false)) (hc:h'[P.c]?=some (.cells [P.cs,.int .i64 (i':Int)] 0 false)) (hl:i'≤P.L.length):Rd P h' i' d' x' a':=
 ⟨hr,hc,e.sw.keep fun b hb o ho=>m.keep b o ho (by rintro rfl;exact P.wr hb) (by rintro rfl;exact P.wc hb),e.sc.keep fun b hb o ho=>m.keep b o ho (by rintro rfl;exact P.cr hb) (by rintro rfl;exact P.cc hb),hl⟩
theorem Rd.setC (e:Rd P h i d x a) {i':Nat} (hl:i'≤P.L.length):Rd P (h.set P.c (.cells [P.cs,.int .i64 (i':Int)] 0 false)) i' d x a∧Mv P h (h.set P.c (.cells [P.cs,.int .i64 (i':Int)] 0 false)):=by
 have m:Mv P h (h.set P.c (.cells [P.cs,.int .i64 (i':Int)] 0 false)):=⟨fun b o ho n1 n2=>by rw [you (yps n2)];exact ho,by simp⟩
 exact ⟨e.move m (by rw [you (yps P.ne)];exact e.hr) (by rw [yox e.lc]) hl,m⟩
theorem Rd.setR (e:Rd P h i d x a) (d' x' a':Nat):Rd P (h.set P.r (.cells [pt P.c,P.ws,.int .i64 (P.en:Int),.int .i64 (d':Int),.int .i64 (x':Int),.int .i64 (a':Int)] 0 false)) i d' x' a'∧Mv P h (h.set P.r (.cells [pt P.c,P.ws,.int .i64 (P.en:Int),.int .i64 (d':Int),.int .i64 (x':Int),.int .i64 (a':Int)] 0 false)):=by
 have m:Mv P h (h.set P.r (.cells [pt P.c,P.ws,.int .i64 (P.en:Int),.int .i64 (d':Int),.int .i64 (x':Int),.int .i64 (a':Int)] 0 false)):=⟨fun b o ho n1 n2=>by rw [you (yps n1)];exact ho,by simp⟩
 exact ⟨e.move m (by rw [yox e.lr]) (by rw [you P.ne];exact e.hc) e.le,m⟩
end
def zir:Tok:=⟨0,[],0,0⟩
def zd (P:RP) (i:Nat):Tok:=(P.L[i]?).getD zir
theorem ya8 {m n:Nat} (h:n≤m) (hm:m<9223372036854775807):IntKind.i64.wrap ((m:Int) - (n:Int))=((m - n:Nat):Int):=by
 rw [zgz (by unfold W;omega)];omega
theorem yjs {m n:Nat} (hm:m+n<9223372036854775807):IntKind.i64.wrap ((m:Int)+(n:Int))=((m+n:Nat):Int):=by
 rw [zgz (by unfold W;omega)];omega
theorem zk (t:Tok):(yd t).length=4:=by simp [yd]
theorem yg (t:Tok):(yd t)[0]?=some (.int .i64 (t.kind:Int)):=rfl
theorem y7 (t:Tok):(yd t)[1]?=some (str t.text):=rfl
theorem zb7 (t:Tok):(yd t)[2]?=some (.int .i64 t.n):=rfl
theorem zcn (t:Tok):(yd t)[3]?=some (.int .i64 (t.at_:Int)):=rfl
theorem zti (t:Tok):(yd t).all plain1=true:=rfl
theorem zyg (h L:Heap) (t:Tok):outE h (h++L) (some (yd t))=some (agg (yd t),h):=zph h L (zti t)
section
variable {P:RP} {h:Heap} {i d x a:Nat}
theorem zio (e:Rd P h i d x a):DF FF qz [pt P.c] h=some (.int .i64 ((P.L.length - i:Nat):Int),h):=by
 refine ye zkp ?_
 have hl:=P.len;have hi:=e.le
 simp only [zew,zb,yos,e.c0,e.cl,ya8 e.le (show P.L.length<9223372036854775807 by omega),pkA,pkB]
theorem Rd.tok (e:Rd P h i d x a) {k:Nat} (hk:k<P.L.length):∃b o v,(∀H',rowO H' 4 P.ws (.int .i64 (k:Int))=some (.pointer (some ⟨b,o,some v⟩),H'))∧∀L,Heap.read (h++L) ⟨b,o,some v⟩ 4=some (yd (zd P k)):=by
 obtain ⟨b,o,v,h1,h2⟩:=e.sw.at (k:=k) (by simpa using hk)
 refine ⟨b,o,v,h1,fun L=> ?_⟩
 rw [h2 L];simp [zd,yow hk]
theorem Rd.tokc (e:Rd P h i d x a) {k:Nat} (hk:k<P.L.length):∃b o v,(∀H',rowO H' 4 P.cs (.int .i64 (k:Int))=some (.pointer (some ⟨b,o,some v⟩),H'))∧∀L,Heap.read (h++L) ⟨b,o,some v⟩ 4=some (yd (zd P k)):=by
 obtain ⟨b,o,v,h1,h2⟩:=e.sc.at (k:=k) (by simpa using hk)
 refine ⟨b,o,v,h1,fun L=> ?_⟩
 rw [h2 L];simp [zd,yow hk]
theorem xx {k:Nat} (hk:¬k<P.L.length):zd P k=zir:=by unfold zd;rw [ypv (by omega)];rfl
theorem zmb (e:Rd P h i d x a) (k:Nat) (hk:k<4):DF FF vg [pt P.r,.int .i64 (k:Int)] h=some (agg (yd (zd P (i+k))),h):=by
 refine ye zlg ?_
 have hl:=P.len;have hi:=e.le
 by_cases hlt:i+k<P.L.length
 ·have c1:(((P.L.length - i:Nat):Int)≤(k:Int))=False:=by simp;omega
  obtain ⟨b,o,v,q1,q2⟩:=e.tok hlt
  have w2:IntKind.i64.wrap ((P.L.length:Int) - ((P.L.length - i:Nat):Int))=(i:Int):=by rw [zgz (by unfold W;omega)];omega
  have w3:=yjs (m:=i) (n:=k) (by omega)
  have ht:zo0 P.ws=false:=by rcases e.sw with ⟨⟨hn,_⟩ | ⟨_,_,_,hn,_⟩,_⟩<;> rw [hn]<;> rfl
  have a1:∀L,zbd (h++L) (.pointer (some ⟨P.r,1,some 0⟩)) P.ws=some (undef,h++L):=fun L=>fu (e.r1 L 1) ht
  simp only [zck,zb,yor,yos,zak,zf,ku,vm,zyg,zk,e.r1,zio (e.more _),c1,e.wl,w2,w3,q1,q2,a1,pkA,pkB]
 ·have c1:(((P.L.length - i:Nat):Int)≤(k:Int))=True:=by simp;omega
  rw [xx hlt]
  simp only [zck,zb,yor,yos,zf,ku,vm,e.r1,zio (e.more _),c1,pkA,pkB]
  exact zyg h _ zir
end
/-! Lists of strings. -/
def pd (s:Bys):List Value:=[str s]
theorem ykl (l:List Bys) (w:Bys):∀k,k<l.idxOf w→(hk:k<l.length)→(w==l[k])=false:=by
 induction l with
 | nil=>intro k h;simp at h
 | cons a l ih=>
  intro k h hk
  rw [List.idxOf_cons] at h
  by_cases ha:(a==w)=true
  ·rw [ha] at h;simp at h
  ·have ha:=Bool.not_eq_true _ |>.mp ha
   rw [ha] at h
   cases k with
   | zero=>rw [List.getElem_cons_zero];rw [Bool.eq_false_iff] at *;intro h';exact ha (by simpa using (by simpa using h':w=a).symm)
   | succ k=>rw [List.getElem_cons_succ];exact ih k (by simpa using h) (by simpa using hk)
theorem zrw (l:List Bys) (w:Bys) {h:Heap} {s:Value} (e:Sl h s 1 (l.map pd)) (hl:l.length<4611686018427387904):DF FF kh [s,str w] h=some (.int .i64 (if l.contains w then (l.idxOf w:Nat) else -1),h):=by
 refine ye zdf ?_
 have ln:∀K,lenO K s=some (.int .i64 (l.length:Int),K):=fun K=>by rw [e.len,ypd]
 have hle:l.idxOf w≤l.length:=List.idxOf_le_length
 simp only [pq,yor,yos,ln,pkA,pkB]
 refine gg (l.idxOf w) (fun k st=>∃(j:Nat→Value),st=⟨[s,str w,j 2,j 3,j 4,j 5,j 6,.int .i64 (l.length:Int),.int .i64 (k:Int),j 9,j 10,j 11,j 12,j 13,j 14,j 15,j 16,j 17,j 18],h⟩) ?_ ?_ _ ?_
 ·rintro k st hk ⟨j,rfl⟩
  have h1:((k:Int)<(l.length:Int))=True:=by simp;omega
  have hkl:k<l.length:=by omega
  obtain ⟨b,o,v,a1,a2⟩:=e.atH (k:=k) (by simpa using hkl)
  have a2:=bt a2 (x:=str l[k]) (by simp [pd])
  have hne:=ykl l w k hk hkl
  simp only [zb,zc,yf,h1,a1,a2,hne,zs (k:=k) (by omega),pkA]
  exact junk rfl
 ·rintro st ⟨j,rfl⟩
  by_cases hm:w∈l
  ·have hlt:l.idxOf w<l.length:=List.idxOf_lt_length_of_mem hm
   have hc:l.contains w=true:=by simpa using hm
   have h1:(((l.idxOf w:Nat):Int)<(l.length:Int))=True:=by simp;omega
   obtain ⟨b,o,v,a1,a2⟩:=e.atH (k:=l.idxOf w) (by simpa using hlt)
   have a2:=bt a2 (x:=str w) (by simp [pd,List.getElem_idxOf])
   simp only [zb,wt,yf,h1,a1,a2,hc,if_true,pkA]
  ·have hc:l.contains w=false:=by simpa using hm
   have hlt:l.idxOf w=l.length:=List.idxOf_eq_length hm
   have h1:(((l.idxOf w:Nat):Int)<(l.length:Int))=False:=by simp;omega
   simp only [zb,zq,h1,hc,yoy,if_false,pkA]
 ·exact junk rfl
theorem zp5 (l:List Bys) (w:Bys) {h:Heap} {s:Value} (e:Sl h s 1 (l.map pd)) (hl:l.length<4611686018427387904):DF FF vl [s,str w] h=some (.bool (l.contains w),h):=by
 refine ye zcj ?_
 have:=zrw l w e hl
 cases hc:l.contains w
 ·rw [hc] at this
  simp only [jr,zb,yor,yos,Int.reduceLE,this,yoy,if_false,pkA,pkB];all_goals rfl
 ·rw [hc] at this
  simp only [jr,zb,yor,yos,this,if_true,show (0:Int)≤((l.idxOf w:Nat):Int) from Int.natCast_nonneg _,pkA,pkB]
theorem zdm (w:Bys) (h:Heap):DF FF za4 [str w] h=some (.bool (kwL.contains w),h):=by
 refine ye zo3 ?_
 have e:Sl (h++[.cells [str wLet,str wRec,str wAnd,str bd,str wIrr,str zcx,str wAs] 0 false]) (.slice (some ⟨h.length,0,some 0⟩) 7 1) 1 (kwL.map pd):=Sl.last h (by rfl) (by rfl) (by intro r hr;simp [kwL,pd] at hr;rcases hr with rfl | rfl | rfl | rfl | rfl | rfl | rfl <;> rfl) 0 false
 have c:=zp5 kwL w e (by decide)
 unfold wLet wRec wAnd bd wIrr zcx wAs at c
 simp only [zip,ypc,yor,yos,slc,zf,ym,c,pkA,pkB]
 rw [zcv ((Pre.refl h).more _) _ _ _ rfl];rfl
theorem zmy (h H:Heap) (i n j:Nat) (t:List Value) (q:Value×Heap):retQ h [.cells i n,.tmp j] (some q) .ret ⟨t,H⟩=zlt (fun v h'=>some (v,h')=some q) h H n (t.getD j undef) (t.getD i undef):=by
 rw [←zge]
 unfold retQ retE
 apply propext
 constructor
 ·intro e;exact ⟨q.1,q.2,e,rfl⟩
 ·rintro ⟨v,h',e,r⟩;rw [e];exact r
theorem j5 (h H:Heap) (v:Value):AM.finish h v H=H∨(AM.finish h v H=h∧H.take h.length=h):=by
 unfold AM.finish;split
 ·rename_i hc;exact .inr ⟨rfl,hc.2⟩
 ·exact .inl rfl
theorem zmp (h L:Heap) (t:Tok) (b:Bool):AM.finish h (tup [agg (yd t),.bool b]) (h++L)=h:=ft h L rfl
section
variable {P:RP} {h:Heap} {i d x a:Nat}
theorem zxb (e:Rd P h i d x a):DF FF py [pt P.c] h=some (tup [agg (yd (zd P i)),.bool (decide (i<P.L.length))],h):=by
 refine ye zkw ?_
 have hi:=e.le
 by_cases hlt:i<P.L.length
 ·have c1:((i:Int)==(P.L.length:Int))=false:=by simp;omega
  obtain ⟨b,o,v,q1,q2⟩:=e.tokc hlt
  simp only [zb3,zb,yor,yos,qy,j2,zf,zk,e.c1,e.cl,c1,q1,q2,zmy,qy,j2,zmp,hlt,pkA,pkB]
 ·have c1:((i:Int)==(P.L.length:Int))=true:=by simp;omega
  rw [xx hlt]
  simp only [zb3,zb,yor,yos,qy,j2,zf,e.c1,e.cl,c1,zmy,qy,j2,hlt,pkA,pkB]
  have:=zmp h [.cells (yd zir) 0 false] zir false
  unfold zir yd at this
  simp only [yov] at this
  unfold zir yd
  rw [yov,this]
def atV (P:RP) (i:Nat):Int:=if i<P.L.length then ((zd P i).at_:Int) else if P.L.length=0 then 0 else IntKind.i64.wrap (((zd P (P.L.length - 1)).at_:Int)+((zd P (P.L.length - 1)).text.length:Int))
theorem at_c (e:Rd P h i d x a):DF FF pi [pt P.c] h=some (.int .i64 (atV P i),h):=by
 refine ye zmd ?_
 have hp:=P.len
 unfold atV
 by_cases hlt:i<P.L.length
 ·rw [if_pos hlt]
  simp only [za9,zb,yor,yos,zf,zk,zcn,zxb e,hlt,pkA,pkB]
  rw [zcv ((Pre.refl h).more _) _ _ _ rfl];simp only [vw,vv,eq_self]
 ·rw [if_neg hlt]
  by_cases h0:P.L.length=0
  ·rw [if_pos h0]
   have c1:(((P.L.length:Nat):Int)==0)=true:=beq_iff_eq.2 (by omega)
   simp only [za9,zb,yor,yos,zf,zk,zxb e,hlt,e.c1,e.cl,c1,pkA,pkB]
   rw [zcv ((Pre.refl h).more _) _ _ _ rfl];simp only [vw,vv,eq_self]
  ·rw [if_neg h0]
   have c1:(((P.L.length:Nat):Int)==0)=false:=beq_eq_false_iff_ne.2 (by omega)
   have w1:IntKind.i64.wrap ((P.L.length:Int) - 1)=((P.L.length - 1:Nat):Int):=by rw [zgz (by unfold W;omega)];omega
   obtain ⟨b,o,v,q1,q2⟩:=e.tokc (k:=P.L.length - 1) (by omega)
   simp only [za9,zb,yor,yos,zf,zu,zh,zk,y7,zcn,zxb e,hlt,e.c1,e.cl,c1,w1,q1,q2,zh,pkA,pkB]
   rw [zcv ((Pre.refl h).more _) _ _ _ rfl];simp only [vw,vv,eq_self]
theorem zjx (e:Rd P h i d x a) (hlt:i<P.L.length):∃h',DF FF y9 [pt P.c] h=some (tup [agg (yd (zd P i)),.bool true],h')∧Rd P h' (i+1) d x a∧Mv P h h':=by
 have hp:=P.len
 have:∃v h',DF FF y9 [pt P.c] h=some (v,h')∧(v=tup [agg (yd (zd P i)),.bool true]∧Rd P h' (i+1) d x a∧Mv P h h'):=by
  refine yb zkn ?_
  obtain ⟨e2,m2⟩:=e.setC (i':=i+1) hlt
  have w1:∀L y,Heap.write1 (h++L) ⟨P.c,1,some 0⟩ y=some ((h.set P.c (.cells [P.cs,y] 0 false))++L):=fun L y=>by
   rw [jo (zm L e.hc) (by simp),List.set_append_left _ _ e.lc];rfl
  have rl:∀L j v,Heap.read1 (h.set P.c (.cells [P.cs,.int .i64 ((i+1:Nat):Int)] 0 false)++L) ⟨h.length,j,v⟩=Heap.read1 L ⟨0,j,v⟩:=fun L j v=>by
   have:=ziz (h.set P.c (.cells [P.cs,.int .i64 ((i+1:Nat):Int)] 0 false)) L j v
   rwa [yo3] at this
  have rl2:∀L k j v n,Heap.read (h.set P.c (.cells [P.cs,.int .i64 ((i+1:Nat):Int)] 0 false)++L) ⟨h.length+k,j,v⟩ n=Heap.read L ⟨k,j,v⟩ n:=fun L k j v n=>by
   have:=zkh (h.set P.c (.cells [P.cs,.int .i64 ((i+1:Nat):Int)] 0 false)) L k j v n
   rwa [yo3] at this
  have wl:∀L j v xs,Heap.write (h.set P.c (.cells [P.cs,.int .i64 ((i+1:Nat):Int)] 0 false)++L) ⟨h.length,j,v⟩ xs=preO (h.set P.c (.cells [P.cs,.int .i64 ((i+1:Nat):Int)] 0 false)) (Heap.write L ⟨0,j,v⟩ xs):=fun L j v xs=>by
   have:=ziu (h.set P.c (.cells [P.cs,.int .i64 ((i+1:Nat):Int)] 0 false)) L j v xs
   rwa [yo3] at this
  have rl3:∀L j v n,Heap.read (h.set P.c (.cells [P.cs,.int .i64 ((i+1:Nat):Int)] 0 false)++L) ⟨h.length,j,v⟩ n=Heap.read L ⟨0,j,v⟩ n:=fun L j v n=>rl2 L 0 j v n
  simp only [zev,zb,yor,yos,zge,qy,j2,zf,zk,zxb (e.more _),hlt,e.c1,zs (k:=i) (by omega),w1,rl2,rl3,wl,zge,qy,j2,pkA,pkB]
  refine ⟨trivial,?_⟩
  rcases j5 h (h.set P.c (.cells [P.cs,.int .i64 ((i+1:Nat):Int)] 0 false)++[.cells (yd (zd P i)) 0 false,.cells (yd (zd P i)) 0 false]) (tup [agg (yd (zd P i)),.bool true]) with hf | ⟨hf,hk⟩
  ·rw [hf];exact ⟨e2.more _,m2.more _⟩
  ·exfalso
   have h1:=e.hc
   rw [←hk,List.take_append_of_le_length (by simp),ypy (by simp),e2.hc] at h1
   simp at h1;omega
 obtain ⟨v,h',q,rfl,r⟩:=this
 exact ⟨h',q,r⟩
end
theorem zb1 {F:Funcs} (b:zal) (s:St) (Q:AEx→St→Prop):WPD (D F (.loop b) s) Q=WPD (D F b s) (yar F (.loop b) Q):=by
 rw [yis];unfold WPD;apply propext
 constructor
 ·rintro ⟨x,s',h,q⟩
  cases ha:D F b s with
  | none=>rw [ha] at h;cases h
  | some p=>
   obtain ⟨y,u⟩:=p
   rw [ha] at h
   refine ⟨y,u,rfl,?_⟩
   cases y with
   | normal=>exact ⟨x,s',h,q⟩
   | exit j=>cases h;exact q
   | ret=>cases h;exact q
 ·rintro ⟨y,u,ha,q⟩
  rw [ha]
  cases y with
  | normal=>exact q
  | exit j=>exact ⟨_,_,rfl,q⟩
  | ret=>exact ⟨_,_,rfl,q⟩
theorem Rd.fin {P:RP} {h H:Heap} {i d x a i' d' x' a':Nat} (e:Rd P h i d x a) (e':Rd P H i' d' x' a') (m:Mv P h H) (v:Value) (hne:i≠i'∨d≠d'∨x≠x'∨a≠a'):AM.finish h v H=H:=by
 rcases j5 h H v with hf | ⟨hf,hk⟩
 ·exact hf
 ·exfalso
  have hg:∀b o,h[b]?=some o→H[b]?=some o:=fun b o hb=>by
   rw [←hk] at hb
   have hlt:=(yoq.1 hb).1
   rw [yp0] at hb
   split at hb
   ·exact hb
   ·cases hb
  have h1:=hg _ _ e.hr
  have h2:=hg _ _ e.hc
  rw [e'.hr] at h1
  rw [e'.hc] at h2
  simp at h1 h2
  omega
section
variable {P:RP} {h:Heap} {i d x a:Nat}
theorem zbb:keyT zir=[]:=rfl
theorem zkl (e:Rd P h i d x a) {s:Value} {m:Bys} (hm:m≠[]) (hs:Sl h s 1 [[str m]]):∃h',DF FF xi [pt P.c,s] h=some (.bool (keyT (zd P i)==m),h')∧Rd P h' (if keyT (zd P i)==m then i+1 else i) d x a∧Mv P h h':=by
 have hp:=P.len
 have hi:=e.le
 have ln:∀K,lenO K s=some (.int .i64 1,K):=fun K=>hs.len K
 have hge:∀k:Nat,((1:Int)>((P.L.length - k:Nat):Int))=(P.L.length≤k):=fun k=>by apply propext;omega
 by_cases hlt:i<P.L.length
 ·obtain ⟨b,o,v,q1,q2⟩:=e.tokc hlt
  obtain ⟨b',o',v',p1,p2⟩:=hs.at (k:=0) (by simp)
  have p2':∀L,Heap.read1 (h++L) ⟨b',o',some v'⟩=some (str m):=fun L=>bt (p2 L) rfl
  have p0:Heap.read1 h ⟨b',o',some v'⟩=some (str m):=by have:=p2' [];rwa [ypl] at this
  have q0:Heap.read h ⟨b,o,some v⟩ 4=some (yd (zd P i)):=by have:=q2 [];rwa [ypl] at this
  have c1:(((P.L.length - i:Nat):Int)<1)=False:=by simp;omega
  simp only [yov] at p1
  have w0:IntKind.i64.wrap ((i:Int)+0)=(i:Int):=by rw [zgz (by unfold W;omega)];omega
  have w1:IntKind.i64.wrap ((i:Int)+1)=((i+1:Nat):Int):=zs (by omega)
  obtain ⟨e2,m2⟩:=e.setC (i':=i+1) hlt
  have wc:∀L y,Heap.write1 (h++L) ⟨P.c,1,some 0⟩ y=some ((h.set P.c (.cells [P.cs,y] 0 false))++L):=fun L y=>by
   rw [jo (zm L e.hc) (by simp),List.set_append_left _ _ e.lc];rfl
  cases hk:keyT (zd P i)==m
  ·have hkk:((zd P i).text !=m)=true∨((zd P i).text !=m)=false∧(((zd P i).kind:Int)==2)=true:=by
    unfold keyT at hk
    by_cases h2:(zd P i).kind=2
    ·cases ht:(zd P i).text !=m
     ·exact .inr ⟨rfl,beq_iff_eq.2 (by omega)⟩
     ·exact .inl rfl
    ·rw [if_neg h2] at hk;left;rw [bne,hk];rfl
   refine ⟨h,?_,by rw [if_neg yo1];exact e,Mv.refl P h⟩
   refine ye zcc ?_
   rcases hkk with hkk | ⟨hkk,h2⟩
   ·simp only [fj,zi,zb,yor,yos,yqd,zf,zcg,zk,y7,ln,zio e,c1,zb1,p1,p0,e.c0,w0,q1,q0,hkk,pkA,pkB]
    rw [zcv ((Pre.refl h).more _) _ _ _ rfl];simp only [vw,vv,eq_self]
   ·simp only [fj,zi,zb,yor,yos,yqd,zf,zcg,zk,yg,y7,ln,zio e,c1,zb1,p1,p0,e.c0,w0,q1,q0,hkk,h2,pkA,pkB]
    rw [zcv ((Pre.refl h).more _) _ _ _ rfl];simp only [vw,vv,eq_self]
  ·have h2n:(zd P i).kind≠2:=by
    intro h2;unfold keyT at hk;rw [if_pos h2] at hk;exact hm (by simpa using hk)
   have h2:(((zd P i).kind:Int)==2)=false:=beq_eq_false_iff_ne.2 (by omega)
   have hkk:((zd P i).text !=m)=false:=by unfold keyT at hk;rw [if_neg h2n] at hk;rw [bne,hk];rfl
   have:∃v h',DF FF xi [pt P.c,s] h=some (v,h')∧(v=.bool true∧Rd P h' (i+1) d x a∧Mv P h h'):=by
    refine yb zcc ?_
    simp only [fj,zi,zb,yor,yos,zy,yqd,zf,zcg,zk,yg,y7,ln,zio e,c1,zb1,p1,p0,e.c0,e.c1,w0,w1,q1,q0,hkk,h2,wc,Int.reduceAdd,yqd,IntKind.wrap_i64,Int.reduceMod,Int.reduceSub,pkA,pkB]
    have f:=e.fin (e2.more [.cells (yd (zd P i)) 0 false]) (m2.more _) (.bool true) (.inl (by omega))
    rw [f]
    exact ⟨trivial,e2.more _,m2.more _⟩
   obtain ⟨v,h',q,rfl,r⟩:=this
   exact ⟨h',q,by rw [if_pos rfl];exact r⟩
 ·have c1:(((P.L.length - i:Nat):Int)<1)=True:=by simp;omega
  have hk:(keyT (zd P i)==m)=false:=by rw [xx hlt,zbb];simpa using hm
  refine ⟨h,?_,by rw [hk,if_neg yo1];exact e,Mv.refl P h⟩
  refine ye zcc ?_
  simp only [fj,zb,yor,yos,zf,ln,zio e,c1,hk,pkA,pkB]
end
section
variable {P:RP} {h:Heap} {i d x a:Nat}
theorem ok_c (e:Rd P h i d x a):DF FF yq [pt P.r] h=some (.bool (((x:Int)==0)),h):=by
 refine ye znz ?_
 simp only [zg8,zb,yos,e.r0,pkA,pkB]
theorem ok_0 (e:Rd P h i d 0 a):DF FF yq [pt P.r] h=some (.bool true,h):=ok_c e
theorem fz (e:Rd P h i d x a) (hx:x≠0):DF FF yq [pt P.r] h=some (.bool false,h):=by
 rw [ok_c e,beq_eq_false_iff_ne.2 (by omega)]
theorem Rd.wr0 (e:Rd P h i d x a) (j:Nat) (hj:j<6) (y:Value):Heap.write1 h ⟨P.r,j,some 0⟩ y=some (h.set P.r (.cells (([pt P.c,P.ws,.int .i64 (P.en:Int),.int .i64 (d:Int),.int .i64 (x:Int),.int .i64 (a:Int)]:List Value).set j y) 0 false)):=jo e.hr (by simpa using hj)
theorem zl7 (e:Rd P h i d 0 a) (c p:Nat) (hc:c≠0):∃h',DF FF yw [pt P.r,.int .i64 (c:Int),.int .i64 (p:Int)] h=some (tup [],h')∧Rd P h' i d c p∧Mv P h h':=by
 have:∃v h',DF FF yw [pt P.r,.int .i64 (c:Int),.int .i64 (p:Int)] h=some (v,h')∧(v=tup []∧Rd P h' i d c p∧Mv P h h'):=by
  refine yb zfo ?_
  obtain ⟨e2,m2⟩:=e.setR d c a
  obtain ⟨e3,m3⟩:=e2.setR d c p
  simp only [zcm,zb,yor,yos,e.r0,e.wr0 4 (by omega),e2.wr0 5 (by omega),zx,yov,pkA,pkB]
  have f:=e.fin e3 (m2.trans m3) (tup []) (.inr (.inr (.inl (yps hc))))
  rw [f]
  exact ⟨trivial,e3,m2.trans m3⟩
 obtain ⟨v,h',q,rfl,r⟩:=this
 exact ⟨h',q,r⟩
theorem zn2 (e:Rd P h i d x a) (hx:x≠0) (c p:Value):DF FF yw [pt P.r,c,p] h=some (tup [],h):=by
 have c1:((x:Int)==0)=false:=beq_eq_false_iff_ne.2 (by omega)
 have:∃v h',DF FF yw [pt P.r,c,p] h=some (v,h')∧(v=tup []∧h'=h):=by
  refine yb zfo ?_
  simp only [zcm,zb,yor,yos,zz,e.r0,c1,zx,zz,pkA,pkB]
  exact ⟨trivial,trivial⟩
 obtain ⟨v,h',q,rfl,rfl⟩:=this
 exact q
def k9 (P:RP) (i:Nat):Nat:=if i<P.L.length then 22 else 24
def gt (P:RP) (i:Nat):Nat:=if i<P.L.length then (zd P i).at_ else P.en
theorem wq (P:RP) (i:Nat):k9 P i≠0:=by unfold k9;split <;> omega
theorem zhc (e:Rd P h i d 0 a):∃h',DF FF wk [pt P.r] h=some (tup [],h')∧Rd P h' i d (k9 P i) (gt P i)∧Mv P h h':=by
 have:∃v h',DF FF wk [pt P.r] h=some (v,h')∧(v=tup []∧Rd P h' i d (k9 P i) (gt P i)∧Mv P h h'):=by
  refine yb zii ?_
  have hi:=e.le
  unfold k9 gt
  by_cases hlt:i<P.L.length
  ·rw [if_pos hlt,if_pos hlt]
   have c1:(((P.L.length - i:Nat):Int)==0)=false:=beq_eq_false_iff_ne.2 (by omega)
   have ha:atV P i=((zd P i).at_:Int):=by unfold atV;rw [if_pos hlt]
   obtain ⟨h',q,r,m⟩:=zl7 e 22 (zd P i).at_ (by omega)
   simp only [yov] at q
   simp only [za1,zb,yos,e.r0,zio e,c1,at_c e,ha,q,zx,pkA,pkB]
   have f:=e.fin r m (tup []) (.inr (.inr (.inl (by omega))))
   rw [f]
   exact ⟨trivial,r,m⟩
  ·rw [if_neg hlt,if_neg hlt]
   have c1:(((P.L.length - i:Nat):Int)==0)=true:=beq_iff_eq.2 (by omega)
   obtain ⟨h',q,r,m⟩:=zl7 e 24 P.en (by omega)
   simp only [yov] at q
   simp only [za1,zb,yos,e.r0,zio e,c1,q,zx,pkA,pkB]
   have f:=e.fin r m (tup []) (.inr (.inr (.inl (by omega))))
   rw [f]
   exact ⟨trivial,r,m⟩
 obtain ⟨v,h',q,rfl,r⟩:=this
 exact ⟨h',q,r⟩
theorem zp4 (P:RP) (i:Nat) {m:UInt8} (hm:(letV (m.toNat:Int) || (m.toNat:Int)==95)=false):(((zd P i).kind:Int)==3&&(zd P i).text==[m])=(keyT (zd P i)==[m]):=by
 have hk:(((zd P i).kind:Int)==3)=decide ((zd P i).kind=3):=by rw [yp7];simp;omega
 rw [hk]
 unfold zd
 cases hg:P.L[i]? with
 | none=>rfl
 | some t=>
  have hmem:t∈P.L:=yp3 hg
  simp only [Option.getD_some]
  unfold keyT
  rcases P.ok t hmem with ⟨h1,c,l,h2,h3⟩ | h1 | ⟨h1,c,l,h2,h3⟩
  ·have hne:((c::l:Bys)==[m])=false:=by
    rw [beq_eq_false_iff_ne];intro he;cases he;rw [hm] at h3;cases h3
   rw [h2]
   simp only [h1,hne,Nat.reduceEqDiff,decide_false,Bool.false_and,if_false]
  ·simp [h1]
  ·simp [h1]
theorem is_c (e:Rd P h i d x a) {m:UInt8} (hm:(letV (m.toNat:Int) || (m.toNat:Int)==95)=false):DF FF qx [pt P.r,str [m]] h=some (.bool (keyT (zd P i)==[m]),h):=by
 refine ye zou ?_
 have hw:=zmb e 0 (by omega)
 rw [yqe,yov] at hw
 rw [←zp4 P i hm]
 cases hk:(((zd P i).kind:Int)==3)
 ·simp only [zd8,zi,zb,yor,yos,zf,zk,yg,hw,hk,pkA,pkB]
  rw [zcv ((Pre.refl h).more _) _ _ _ rfl];simp only [vw,vv,eq_self]
 ·simp only [zd8,zi,zb,yor,yos,zf,yf,zk,yg,y7,hw,hk,pkA,pkB]
  rw [zcv ((Pre.refl h).more _) _ _ _ rfl];simp only [vw,vv,eq_self]
theorem zoc (h:Heap) (m:Bys):Sl (h++[.cells [str m] 0 false]) (.slice (some ⟨h.length,0,some 0⟩) 1 1) 1 [[str m]]:=Sl.last h (by rfl) (by rfl) (by simp) 0 false
theorem zw5 (e:Rd P h i d 0 a) {m:Bys} (hm:m≠[]):∃h',DF FF wj [pt P.r,str m] h=some (tup [],h')∧(if keyT (zd P i)==m then Rd P h' (i+1) d 0 a else Rd P h' i d (k9 P i) (gt P i))∧Mv P h h':=by
 have:∃v h',DF FF wj [pt P.r,str m] h=some (v,h')∧(v=tup []∧(if keyT (zd P i)==m then Rd P h' (i+1) d 0 a else Rd P h' i d (k9 P i) (gt P i))∧Mv P h h'):=by
  refine yb zff ?_
  obtain ⟨h1,q,r,m1⟩:=zkl (e.more [.cells [str m] 0 false]) hm (zoc h m)
  have m1':Mv P h h1:=(Mv.add P h [.cells [str m] 0 false]).trans m1
  cases hk:keyT (zd P i)==m
  ·rw [hk] at q r
   rw [if_neg yo1] at r
   obtain ⟨h2,q2,r2,m2⟩:=zhc r
   simp only [zaj,zi,zb,yor,yos,slc,zf,ym,e.r0,ok_0 e,q,q2,zx,pkA,pkB]
   have f:=e.fin r2 (m1'.trans m2) (tup []) (.inr (.inr (.inl (yps (wq P i)))))
   rw [f]
   exact ⟨trivial,by rw [if_neg yo1];exact r2,m1'.trans m2⟩
  ·rw [hk] at q r
   rw [if_pos rfl] at r
   simp only [zaj,zi,zb,yor,yos,slc,zf,ym,e.r0,ok_0 e,q,zx,pkA,pkB]
   have f:=e.fin r m1' (tup []) (.inl (by omega))
   rw [f]
   exact ⟨trivial,by rw [if_pos trivial];exact r,m1'⟩
 obtain ⟨v,h',q,rfl,r⟩:=this
 exact ⟨h',q,r⟩
theorem zur (e:Rd P h i d x a) (hx:x≠0) (m:Bys):DF FF wj [pt P.r,str m] h=some (tup [],h):=by
 have:∃v h',DF FF wj [pt P.r,str m] h=some (v,h')∧(v=tup []∧h'=h):=by
  refine yb zff ?_
  simp only [zaj,zi,yor,yos,zz,zf,fz e hx,zx,zz,pkA,pkB]
  exact ⟨trivial,trivial⟩
 obtain ⟨v,h',q,rfl,rfl⟩:=this
 exact q
theorem zmq (P:RP) (i:Nat):bw (zd P i)=true→i<P.L.length:=fun hn=>by
 by_cases hlt:i<P.L.length
 ·exact hlt
 ·rw [xx hlt] at hn;cases hn
theorem yd5 (e:Rd P h i d 0 a):∃w p h',DF FF q9 [pt P.r] h=some (tup [str w,.int .i64 p],h')∧(if bw (zd P i) then w=(zd P i).text∧p=((zd P i).at_:Int)∧Rd P h' (i+1) d 0 a else Rd P h' i d (k9 P i) (gt P i))∧Mv P h h':=by
 have:∃v h',DF FF q9 [pt P.r] h=some (v,h')∧∃w p,(v=tup [str w,.int .i64 p]∧(if bw (zd P i) then w=(zd P i).text∧p=((zd P i).at_:Int)∧Rd P h' (i+1) d 0 a else Rd P h' i d (k9 P i) (gt P i))∧Mv P h h'):=by
  refine yb zkx ?_
  have hw:=zmb e 0 (by omega)
  rw [yqe,yov] at hw
  cases hn:bw (zd P i)
  ·obtain ⟨h1,q,r,m1⟩:=zhc (e.more [.cells (yd (zd P i)) 0 false])
   have m1':Mv P h h1:=(Mv.add P h _).trans m1
   have f:=fun v=>e.fin r m1' v (.inr (.inr (.inl (yps (wq P i)))))
   unfold bw at hn
   cases hk:(((zd P i).kind:Int) !=1)
   ·have hk1:((zd P i).kind==1)=true:=by rw [beq_iff_eq];have:=bne_eq_false_iff_eq.1 hk;omega
    rw [hk1,yp2,Bool.not_eq_false'] at hn
    simp only [pu,zi,zb,yor,yos,gx,zf,zk,yg,y7,e.r0,at_c e,hw,ok_0 (e.more _),hk,zdm,hn,q,gx,f,pkA,pkB]
    exact ⟨_,_,rfl,by rw [if_neg yo1];exact r,m1'⟩
   ·simp only [pu,zi,zb,yor,yos,gx,zf,zk,yg,e.r0,at_c e,hw,ok_0 (e.more _),hk,q,gx,f,pkA,pkB]
    exact ⟨_,_,rfl,by rw [if_neg yo1];exact r,m1'⟩
  ·have hlt:=zmq P i hn
   obtain ⟨h1,q,r,m1⟩:=zjx (e.more [.cells (yd (zd P i)) 0 false]) hlt
   have m1':Mv P h h1:=(Mv.add P h _).trans m1
   have f:=fun v=>e.fin r m1' v (.inl (by omega))
   have hr:Heap.read1 h1 ⟨h.length,1,some 0⟩=some (str (zd P i).text):=by
    have hb:(h++[AObj.cells (yd (zd P i)) 0 false])[h.length]?=some (AObj.cells (yd (zd P i)) 0 false):=by simp
    have:=zr (j:=1) (m1.keep h.length _ hb (by have:=e.lr;omega) (by have:=e.lc;omega))
    rw [this];rfl
   unfold bw at hn
   rw [ypi,beq_iff_eq,Bool.not_eq_true'] at hn
   have hk:(((zd P i).kind:Int) !=1)=false:=by rw [hn.1];rfl
   have ha:atV P i=((zd P i).at_:Int):=by unfold atV;rw [if_pos hlt]
   simp only [pu,zi,zb,yor,yos,gx,zf,zk,yg,y7,e.r0,e.r1,at_c e,hw,ok_0 (e.more _),hk,zdm,hn.2,q,hr,gx,f,ha,pkA,pkB]
   exact ⟨_,_,rfl,by rw [if_pos trivial];exact ⟨rfl,rfl,r⟩,m1'⟩
 obtain ⟨v,h',q,w,p,rfl,r⟩:=this
 exact ⟨w,p,h',q,r⟩
end
theorem ygf (t:Tok) (ht:t=zir∨zt5 t) (h:Heap):DF FF zhg [agg (yd t)] h=some (.bool (t.kind==2 || (bw t || (keyT t==[40] || keyT t==[91]))),h):=by
 refine ye zsr ?_
 have k0:∀n:Nat,((t.kind:Int)==(n:Int))=(t.kind==n):=fun n=>by rw [yp7];simp;omega
 have k1:=k0 1;have k2:=k0 2;have k3:=k0 3
 simp only [yov] at k1 k2 k3
 have fl:∀(b:Bool) (L:Heap),AM.finish h (.bool b) (h++L)=h:=fun b L=>ft h L rfl
 by_cases h1:t.kind=1
 ·have e1:(t.kind==1)=true:=by simp [h1]
  have e2:(t.kind==2)=false:=by simp [h1]
  have e3:(keyT t==[40] || keyT t==[91])=false:=by
   rcases ht with rfl | ⟨_,c,l,h2,h3⟩ | h2 | ⟨h2,_⟩
   ·cases h1
   ·unfold keyT;rw [if_neg (by omega),h2]
    cases hc:((c::l==[40]) || (c::l==[91])) with
    | false=>rfl
    | true=>
     rcases Bool.or_eq_true_iff.1 hc with hc | hc <;>(have:=eq_of_beq hc;cases this;cases h3)
   ·omega
   ·omega
  simp only [zct,zb,yos,zg,ze,zf,zk,yg,y7,zg,ze,k1,e1,zdm,pkA,pkB]
  rw [zcv ((Pre.refl h).more _) _ _ _ rfl]
  simp only [vw,vv,ypz,Bool.or_false,yp2,eq_self,bw,e1,e2,e3]
 ·have e1:(t.kind==1)=false:=by simp [h1]
  by_cases h3:t.kind=3
  ·have e3:(t.kind==3)=true:=by simp [h3]
   have e2:(t.kind==2)=false:=by simp [h3]
   cases hx:(t.text==[40])
   ·simp only [zct,zi,zb,yos,zg,ze,zf,yf,zk,yg,y7,zg,ze,k1,k3,e1,e3,hx,pkA,pkB]
    rw [zcv ((Pre.refl h).more _) _ _ _ rfl]
    simp only [vw,vv,ypz,Bool.false_and,eq_self,bw,keyT,h3,hx,if_neg (show ¬(3:Nat)=2 by omega),Nat.reduceBEq]
   ·simp only [zct,zi,zb,yos,zg,ze,zf,yf,zk,yg,y7,zg,ze,k1,k3,e1,e3,hx,pkA,pkB]
    rw [zcv ((Pre.refl h).more _) _ _ _ rfl]
    simp only [vw,vv,yqg,Bool.or_true,Bool.false_and,eq_self,bw,keyT,h3,hx,if_neg (show ¬(3:Nat)=2 by omega),Nat.reduceBEq]
  ·have e3:(t.kind==3)=false:=by simp [h3]
   have e4:(keyT t==[40] || keyT t==[91])=false:=by
    rcases ht with rfl | ⟨h2,_⟩ | h2 | ⟨h2,_⟩
    ·rfl
    ·omega
    ·unfold keyT;rw [if_pos h2];rfl
    ·omega
   simp only [zct,zb,yos,zg,ze,zf,zk,yg,zg,ze,k1,k2,k3,e1,e3,pkA,pkB]
   rw [zcv ((Pre.refl h).more _) _ _ _ rfl]
   simp only [vw,vv,Bool.or_false,Bool.false_and,eq_self,bw,e1,e4]
/-! Words are used up. -/
def Shr (f:List Tok→PR Ex):Prop:=∀ts x r,f ts=.ok x r→r.length<ts.length
theorem zyq {part:List Tok→PR Ex} {m:Bys→Option Op2} (hp:Shr part):∀k n ts x r,binL part m k n ts=.ok x r→r.length≤ts.length
 | 0,n,ts,x,r,h=>by rw [binL] at h;cases h;exact yoz _
 | k+1,n,[],x,r,h=>by rw [binL] at h;cases h;exact yoz _
 | k+1,n,t::ts,x,r,h=>by
  rw [binL] at h
  split at h
  ·cases h;exact yoz _
  ·split at h
   ·rename_i x' r' hq
    have h1:=hp _ _ _ hq
    have h2:=zyq hp k _ _ _ _ h
    simp only [ypb];omega
   ·cases h
theorem zjw {part:List Tok→PR Ex} {m:Bys→Option Op2} (hp:Shr part):∀k k' n ts,ts.length≤k→ts.length≤k'→binL part m k n ts=binL part m k' n ts
 | 0,k',n,ts,h,h'=>by
  have:ts=[]:=ypj (by omega)
  subst this
  cases k' <;> rfl
 | k+1,0,n,ts,h,h'=>by
  have:ts=[]:=ypj (by omega)
  subst this;rfl
 | k+1,k'+1,n,[],h,h'=>rfl
 | k+1,k'+1,n,t::ts,h,h'=>by
  rw [binL,binL]
  cases m (keyT t) with
  | none=>rfl
  | some o=>
   cases hq:part ts with
   | ok x r=>
    have:=hp _ _ _ hq
    simp only [ypb] at h h'
    exact zjw hp k k' _ _ (by omega) (by omega)
   | bad c a=>rfl
theorem zbm {part:List Tok→PR Ex} {m:Bys→Option Op2} (hp:Shr part):Shr (zas part m):=by
 intro ts x r h
 unfold zas at h
 split at h
 ·rename_i n r1 hq
  have h1:=hp _ _ _ hq
  have h2:=zyq hp _ _ _ _ _ h
  omega
 ·cases h
theorem ygd {e:Nat} {f:List Tok→PR Ex} {ts r:List Tok} {x:Ex} (h:inv3 e f ts=.ok x r):∃ts',ts'.length<ts.length∧f ts'=.ok x r:=by
 cases ts with
 | nil=>cases h
 | cons t ts=>
  rw [inv3] at h
  split at h
  ·exact ⟨ts,by simp,h⟩
  ·cases h
theorem zxs {e:Nat} {f:List Tok→PR Ex} {ts r:List Tok} {x:Ex} (h:inv2 e f ts=.ok x r):∃ts',ts'.length<ts.length∧f ts'=.ok x r:=by
 cases ts with
 | nil=>cases h
 | cons t ts=>
  rw [inv2] at h
  split at h
  ·obtain ⟨ts',h1,h2⟩:=ygd h;exact ⟨ts',by simp;omega,h2⟩
  ·cases h
theorem yag {e:Nat} {f g:List Tok→PR Ex} {ts:List Tok} (h:∀r,r.length<ts.length→f r=g r):inv3 e f ts=inv3 e g ts:=by
 cases ts with
 | nil=>rfl
 | cons t ts=>rw [inv3,inv3,h ts (by simp)]
theorem zlo {e:Nat} {f g:List Tok→PR Ex} {ts:List Tok} (h:∀r,r.length<ts.length→f r=g r):inv2 e f ts=inv2 e g ts:=by
 cases ts with
 | nil=>rfl
 | cons t ts=>rw [inv2,inv2,yag fun r hr=>h r (by simp;omega)]
theorem zhu (e:Nat):∀k n ts x r,pj e k n ts=.ok x r→r.length≤ts.length
 | 0,n,ts,x,r,h=>by rw [pj] at h;cases h;exact yoz _
 | k+1,n,[],x,r,h=>by rw [pj] at h;cases h;exact yoz _
 | k+1,n,t::ts,x,r,h=>by
  rw [pj] at h
  split at h
  ·have:=zhu e k _ _ _ _ h;simp only [ypb];omega
  split at h
  ·have:=zhu e k _ _ _ _ h;simp only [ypb];omega
  split at h
  ·have:=zhu e k _ _ _ _ h;simp only [ypb];omega
  split at h
  ·obtain ⟨ts',h1,h2⟩:=zxs h
   have:=zhu e k _ _ _ _ h2;simp only [ypb];omega
  ·cases h;exact yoz _
theorem zbl (e:Nat):∀k k' n ts,ts.length≤k→ts.length≤k'→pj e k n ts=pj e k' n ts
 | 0,k',n,ts,h,h'=>by
  have:ts=[]:=ypj (by omega)
  subst this
  cases k' <;> rfl
 | k+1,0,n,ts,h,h'=>by
  have:ts=[]:=ypj (by omega)
  subst this;rfl
 | k+1,k'+1,n,[],h,h'=>rfl
 | k+1,k'+1,n,t::ts,h,h'=>by
  simp only [ypb] at h h'
  rw [pj,pj]
  rw [zbl e k k' (.un .plus n) ts (by omega) (by omega),zbl e k k' (.un .maybe n) ts (by omega) (by omega),zbl e k k' (.un .star n) ts (by omega) (by omega),zlo fun r hr=>zbl e k k' (.un .inv n) r (by omega) (by omega)]
theorem zoa {e:Nat} {prim:List Tok→PR Ex} (hp:Shr prim):Shr (znp e prim):=by
 intro ts x r h
 unfold znp at h
 split at h
 ·rename_i n r1 hq
  have h1:=hp _ _ _ hq
  have h2:=zhu e _ _ _ _ _ h
  omega
 ·cases h
theorem znr {post:List Tok→PR Ex} (hp:Shr post):Shr (zo6 post):=by
 intro ts x r h
 unfold zo6 at h
 split at h
 ·rename_i n hq
  cases h;exact hp _ _ _ hq
 ·rename_i n t r1 hq
  have h1:=hp _ _ _ hq
  split at h
  ·split at h
   ·rename_i m r2 hq2
    have h2:=hp _ _ _ hq2
    cases h
    simp only [ypb] at h1;omega
   ·cases h
  ·cases h;exact h1
 ·cases h
theorem yce {e:Nat} {cl:Bys} {mk:Ex→Ex} {R:PR Ex} {x:Ex} {r:List Tok} (h:brP e cl mk R=.ok x r):∃n t,R=.ok n (t::r)∧x=mk n∧keyT t==cl:=by
 cases R with
 | bad c a=>cases h
 | ok n r'=>
  rw [brP] at h
  cases r' with
  | nil=>cases h
  | cons t r'=>
   rw [zly] at h
   split at h
   ·rename_i hk;cases h;exact ⟨n,t,rfl,rfl,hk⟩
   ·cases h
theorem zko {e:Nat} {inner:Option (List Tok→PR Ex)} (hp:∀f,inner=some f→Shr f):Shr (zmk e inner):=by
 intro ts x r h
 cases ts with
 | nil=>cases h
 | cons t ts=>
  rw [zmk] at h
  split at h
  ·cases inner with
   | none=>cases h
   | some f=>
    have hf:=hp f rfl
    rw [brkP] at h
    split at h
    ·obtain ⟨n,t2,hq,_,_⟩:=yce h
     have:=hf _ _ _ hq
     simp only [ypb] at this ⊢;omega
    ·obtain ⟨n,t2,hq,_,_⟩:=yce h
     have:=hf _ _ _ hq
     simp only [ypb] at this ⊢;omega
  split at h
  ·cases h;simp
  split at h
  ·cases h;simp
  ·cases h
theorem zsc {e:Nat} {prim:List Tok→PR Ex} (hp:Shr prim):Shr (ydf e prim):=zbm (zbm (zbm (znr (zoa hp))))
theorem zdz (e:Nat):∀d,Shr (zhj e d)
 | 0=>zsc (zko fun f h=>by cases h)
 | d+1=>zsc (zko fun f h=>by cases h;exact zdz e d)
abbrev nilP:Value:=.pointer none
def zhm:Bys:=[110,97,109,101]
def xt (op w:Bys) (a:Nat) (l r:Value) (s:Bool):List Value:=[str op,str w,.int .i64 (a:Int),l,r,.bool s]
def op1S:Op1→Bys
 | .plus=>[43]
 | .star=>[42]
 | .maybe=>[63]
 | .inv=>[94]
def op2S:Op2→Bys
 | .or=>[124]
 | .and=>[38]
 | .minus=>[92]
 | .seq=>[59]
 | .cross=>[120]
def TreeP (h:Heap):(Nat→Prop)→Value→Ex→Prop
 | S,v,.name s a w=>∃b,v=pt b∧S b∧h[b]?=some (.cells (xt zhm w a nilP nilP s) 0 false)
 | S,v,.zero a=>∃b,v=pt b∧S b∧h[b]?=some (.cells (xt [48] [] a nilP nilP false) 0 false)
 | S,v,.par s a e=>∃b S' x,v=pt b∧S b∧h[b]?=some (.cells (xt [40] [] a x nilP s) 0 false)∧TreeP h S' x e∧∀y,S' y→S y∧y≠b
 | S,v,.box a e=>∃b S' x,v=pt b∧S b∧h[b]?=some (.cells (xt [91] [] a x nilP false) 0 false)∧TreeP h S' x e∧∀y,S' y→S y∧y≠b
 | S,v,.un o e=>∃b S' x,v=pt b∧S b∧h[b]?=some (.cells (xt (op1S o) [] e.pl x nilP false) 0 false)∧TreeP h S' x e∧∀y,S' y→S y∧y≠b
 | S,v,.bin s o l r=>∃b S1 S2 x y,v=pt b∧S b∧h[b]?=some (.cells (xt (op2S o) [] l.pl x y s) 0 false)∧TreeP h S1 x l∧TreeP h S2 y r∧(∀z,S1 z→S z∧z≠b∧¬S2 z)∧∀z,S2 z→S z∧z≠b
theorem TreeP.keep {h h':Heap}:∀{S:Nat→Prop} {v:Value} {e:Ex},TreeP h S v e→(∀b o,S b→h[b]?=some o→h'[b]?=some o)→TreeP h' S v e
 | S,v,.name s a w,t,k=>by obtain ⟨b,hv,hb,ho⟩:=t;exact ⟨b,hv,hb,k b _ hb ho⟩
 | S,v,.zero a,t,k=>by obtain ⟨b,hv,hb,ho⟩:=t;exact ⟨b,hv,hb,k b _ hb ho⟩
 | S,v,.par s a e,t,k=>by obtain ⟨b,S',x,hv,hb,ho,t',hs⟩:=t;exact ⟨b,S',x,hv,hb,k b _ hb ho,t'.keep (fun c o hc=>k c o (hs c hc).1),hs⟩
 | S,v,.box a e,t,k=>by obtain ⟨b,S',x,hv,hb,ho,t',hs⟩:=t;exact ⟨b,S',x,hv,hb,k b _ hb ho,t'.keep (fun c o hc=>k c o (hs c hc).1),hs⟩
 | S,v,.un o' e,t,k=>by obtain ⟨b,S',x,hv,hb,ho,t',hs⟩:=t;exact ⟨b,S',x,hv,hb,k b _ hb ho,t'.keep (fun c o hc=>k c o (hs c hc).1),hs⟩
 | S,v,.bin s o' l r,t,k=>by
  obtain ⟨b,S1,S2,x,y,hv,hb,ho,t1,t2,hs1,hs2⟩:=t
  exact ⟨b,S1,S2,x,y,hv,hb,k b _ hb ho,t1.keep (fun c o hc=>k c o (hs1 c hc).1),t2.keep (fun c o hc=>k c o (hs2 c hc).1),hs1,hs2⟩
theorem TreeP.weak {h:Heap} {S S':Nat→Prop} (hs:∀b,S b→S' b):∀{v:Value} {e:Ex},TreeP h S v e→TreeP h S' v e
 | v,.name s a w,t=>by obtain ⟨b,hv,hb,ho⟩:=t;exact ⟨b,hv,hs b hb,ho⟩
 | v,.zero a,t=>by obtain ⟨b,hv,hb,ho⟩:=t;exact ⟨b,hv,hs b hb,ho⟩
 | v,.par s a e,t=>by obtain ⟨b,T,x,hv,hb,ho,t',h'⟩:=t;exact ⟨b,T,x,hv,hs b hb,ho,t',fun y hy=>⟨hs y (h' y hy).1,(h' y hy).2⟩⟩
 | v,.box a e,t=>by obtain ⟨b,T,x,hv,hb,ho,t',h'⟩:=t;exact ⟨b,T,x,hv,hs b hb,ho,t',fun y hy=>⟨hs y (h' y hy).1,(h' y hy).2⟩⟩
 | v,.un o e,t=>by obtain ⟨b,T,x,hv,hb,ho,t',h'⟩:=t;exact ⟨b,T,x,hv,hs b hb,ho,t',fun y hy=>⟨hs y (h' y hy).1,(h' y hy).2⟩⟩
 | v,.bin s o l r,t=>by
  obtain ⟨b,S1,S2,x,y,hv,hb,ho,t1,t2,hs1,hs2⟩:=t
  exact ⟨b,S1,S2,x,y,hv,hs b hb,ho,t1,t2,fun z hz=>⟨hs z (hs1 z hz).1,(hs1 z hz).2⟩,fun z hz=>⟨hs z (hs2 z hz).1,(hs2 z hz).2⟩⟩
theorem TreeP.root {h:Heap} {S:Nat→Prop} {v:Value} {e:Ex} (t:TreeP h S v e):∃b op w l r,v=pt b∧S b∧h[b]?=some (.cells (xt op w e.pl l r e.set) 0 false):=by
 cases e with
 | name s a w=>obtain ⟨b,hv,hb,ho⟩:=t;exact ⟨b,_,_,_,_,hv,hb,ho⟩
 | zero a=>obtain ⟨b,hv,hb,ho⟩:=t;exact ⟨b,_,_,_,_,hv,hb,ho⟩
 | par s a e=>obtain ⟨b,T,x,hv,hb,ho,t',h'⟩:=t;exact ⟨b,_,_,_,_,hv,hb,ho⟩
 | box a e=>obtain ⟨b,T,x,hv,hb,ho,t',h'⟩:=t;exact ⟨b,_,_,_,_,hv,hb,ho⟩
 | un o e=>obtain ⟨b,T,x,hv,hb,ho,t',h'⟩:=t;exact ⟨b,_,_,_,_,hv,hb,ho⟩
 | bin s o l r=>obtain ⟨b,S1,S2,x,y,hv,hb,ho,_⟩:=t;exact ⟨b,_,_,_,_,hv,hb,ho⟩
def Iv (lo hi:Nat):Nat→Prop:=fun b=>lo≤b∧b<hi
/-- What a function that reads an expression comes to. -/
def ExR (P:RP) (h:Heap) (d:Nat) (v:Value) (h':Heap):PR Ex→Prop
 | .ok n r=>∃i,r=P.L.drop i∧Rd P h' i d 0 0∧TreeP h' (Iv h.length h'.length) v n∧Mv P h h'
 | .bad c p=>c≠0∧(∃i,Rd P h' i d c p)∧Mv P h h'∧∃b,v=pt b
def zed (P:RP) (F:FuncId) (d:Nat) (f:List Tok→PR Ex):Prop:=∀h i,Rd P h i d 0 0→∃v h',DF FF F [pt P.r] h=some (v,h')∧ExR P h d v h' (f (P.L.drop i))
def zvf (P:RP) (F:FuncId):Prop:=∀h i d c p,Rd P h i d c p→c≠0→∃b h',DF FF F [pt P.r] h=some (pt b,h')∧Rd P h' i d c p∧Mv P h h'
theorem ExR.ptr {P:RP} {h h':Heap} {d:Nat} {v:Value} {R:PR Ex} (e:ExR P h d v h' R):∃b,v=pt b:=by
 cases R with
 | ok n r=>obtain ⟨i,_,_,t,_⟩:=e;obtain ⟨b,_,_,_,_,hv,_⟩:=t.root;exact ⟨b,hv⟩
 | bad c p=>exact e.2.2.2
theorem jn (h H:Heap) (b:Nat):AM.finish h (pt b) H=H:=zfm h rfl H
theorem jx {P:RP} {k:Nat} (hk:k<P.L.length):P.L.drop k=zd P k::P.L.drop (k+1):=by
 rw [ypo hk];unfold zd;rw [yow hk];rfl
theorem zyu (P:RP) (k:Nat):zd P k=zir∨zt5 (zd P k):=by
 by_cases hk:k<P.L.length
 ·right;unfold zd;rw [yow hk];exact P.ok _ (List.getElem_mem hk)
 ·left;exact xx hk
def MarksOk (mks:List Bys) (mo:Bys→Option Op2):Prop:=mo []=none∧mks.length<10∧∀t:Tok,zt5 t→(((t.kind:Int)==3)&&mks.contains t.text)=(mo (keyT t)).isSome∧∀o,mo (keyT t)=some o→op2S o=t.text
theorem MarksOk.at {mks:List Bys} {mo:Bys→Option Op2} (m:MarksOk mks mo) (P:RP) (k:Nat):(((((zd P k).kind:Int)==3)&&mks.contains (zd P k).text)=(mo (keyT (zd P k))).isSome)∧∀o,mo (keyT (zd P k))=some o→op2S o=(zd P k).text∧k<P.L.length:=by
 by_cases hk:k<P.L.length
 ·rcases zyu P k with h | h
  ·rw [h]
   rw [zbb,m.1]
   exact ⟨rfl,fun o ho=>by cases ho⟩
  ·exact ⟨(m.2.2 _ h).1,fun o ho=>⟨(m.2.2 _ h).2 o ho,hk⟩⟩
 ·rw [xx hk,zbb,m.1]
  exact ⟨rfl,fun o ho=>by cases ho⟩
set_option maxHeartbeats 1000000 in
theorem znm {P:RP} {F:FuncId} {d:Nat} {part:List Tok→PR Ex} {mks:List Bys} {mo:Bys→Option Op2} (hF:zed P F d part) (hs:Shr part) (hm:MarksOk mks mo) {h:Heap} {i:Nat} (e:Rd P h i d 0 0) {ms:Value} (hms:Sl h ms 1 (mks.map pd)) (br:blk ms≠some P.r) (bc:blk ms≠some P.c):
  ∃v h',DF FF vr [pt P.r,.func (.func F) [pt P.r].toArray [].toArray,ms] h=some (v,h')∧ExR P h d v h' (zas part mo (P.L.drop i)):=by
 refine yb zc9 ?_
 obtain ⟨v0,h0,q0,x0⟩:=hF h i e
 simp only [za0,yor,yos,zf,pm,qi,q0,pkA,pkB]
 obtain ⟨R,hR⟩:∃R,R=zas part mo (P.L.drop i):=⟨_,rfl⟩
 rw [←hR]
 refine zgx (fun m st=>(∃(K:Heap) (k:Nat) (n:Ex) (v:Value) (j:Nat→Value),m=P.L.length - k+1∧Rd P K k d 0 0∧TreeP K (Iv h.length K.length) v n∧Mv P h K∧binL part mo P.L.length n (P.L.drop k)=R∧st=⟨[pt P.r,.func (.func F) [pt P.r].toArray [].toArray,ms,j 3,j 4,j 5,j 6,v,j 8,j 9,j 10,j 11,j 12,j 13,j 14,j 15,j 16,j 17,j 18,j 19,j 20,j 21,j 22,j 23,j 24,j 25,j 26,j 27,j 28,j 29,j 30,j 31,j 32,j 33,j 34,j 35,j 36,j 37,j 38,j 39,j 40,j 41,j 42,j 43,j 44,j 45,j 46],K⟩)∨
  (∃(K:Heap) (k c p b:Nat) (j:Nat→Value),m=0∧R=.bad c p∧c≠0∧Rd P K k d c p∧Mv P h K∧st=⟨[pt P.r,.func (.func F) [pt P.r].toArray [].toArray,ms,j 3,j 4,j 5,j 6,pt b,j 8,j 9,j 10,j 11,j 12,j 13,j 14,j 15,j 16,j 17,j 18,j 19,j 20,j 21,j 22,j 23,j 24,j 25,j 26,j 27,j 28,j 29,j 30,j 31,j 32,j 33,j 34,j 35,j 36,j 37,j 38,j 39,j 40,j 41,j 42,j 43,j 44,j 45,j 46],K⟩)) ?_ (match part (P.L.drop i) with | .ok n r=>r.length+1 | .bad c p=>0) _ ?_
 ·rintro m st (⟨K,k,n,v,j,rfl,eK,tK,mK,hb,rfl⟩ | ⟨K,k,c,p,b,j,rfl,hb,hc,eK,mK,rfl⟩)
  ·have hw:=zmb eK 0 (by omega)
   rw [yqe,yov] at hw
   have hmsK:Sl K ms 1 (mks.map pd):=hms.keep fun b hb o ho=>mK.keep b o ho (by rintro rfl;exact br hb) (by rintro rfl;exact bc hb)
   have hct:=zp5 mks (zd P k).text hmsK (by have:=hm.2.1;omega)
   obtain ⟨hm1,hm2⟩:=hm.at P k
   have lr:=e.lr;have lc:=e.lc
   cases ho:mo (keyT (zd P k)) with
   | none=>
    rw [ho,Option.isSome_none] at hm1
    have hend:R=.ok n (P.L.drop k):=by
     rw [←hb]
     by_cases hk:k<P.L.length
     ·rw [jx hk]
      obtain ⟨q,hq⟩:∃q,P.L.length=q+1:=⟨P.L.length - 1,by omega⟩
      rw [hq,binL,ho]
     ·rw [yo5 (by omega)];cases P.L.length <;> rfl
    have hv:=tK.root
    obtain ⟨b,_,_,_,_,rfl,_⟩:=hv
    cases hk3:(((zd P k).kind:Int)==3)
    ·simp only [zi,zb,zy,yg,ok_0 eK,hw,hk3,zy,jn,yg,pkA,pkB]
     rw [hend]
     exact ⟨k,rfl,eK,tK,mK⟩
    ·rw [hk3,yp2] at hm1
     simp only [zi,zb,zy,yg,y7,ok_0 eK,hw,hk3,hct,hm1,zy,jn,yg,y7,pkA,pkB]
     rw [hend]
     exact ⟨k,rfl,eK,tK,mK⟩
   | some o=>
    obtain ⟨ho2,hk⟩:=hm2 o ho
    rw [ho,Option.isSome_some,ypi] at hm1
    obtain ⟨hk3,hk4⟩:=hm1
    obtain ⟨K1,q1,e1,m1⟩:=zjx eK hk
    obtain ⟨v2,K2,q2,x2⟩:=hF (K1++[.cells (yd (zd P k)) 0 false]) (k+1) (e1.more _)
    obtain ⟨b,op,w,l,r,rfl,hbS,hbo⟩:=tK.root
    have hstep:R=match part (P.L.drop (k+1)) with
      | .ok x r'=>binL part mo P.L.length (.bin false o n x) r'
      | .bad c a=>.bad c a:=by
     rw [←hb,jx hk]
     obtain ⟨q,hq⟩:∃q,P.L.length=q+1:=⟨P.L.length - 1,by omega⟩
     rw [hq,binL,ho]
     simp only
     cases hp:part (P.L.drop (k+1)) with
     | bad c a=>rfl
     | ok x r'=>
      have:=hs _ _ _ hp
      simp only [ypf] at this
      exact zjw hs _ _ _ _ (by omega) (by omega)
    obtain ⟨b2,rfl⟩:=x2.ptr
    have m12:Mv P K K2:=(m1.more _).trans (by
     cases hp:part (P.L.drop (k+1)) with
     | ok x r'=>rw [hp] at x2;obtain ⟨_,_,_,_,m⟩:=x2;exact m
     | bad c a=>rw [hp] at x2;exact x2.2.2.1)
    have mx:Mv P (K1++[.cells (yd (zd P k)) 0 false]) K2:=by
     cases hp:part (P.L.drop (k+1)) with
     | ok x r'=>rw [hp] at x2;obtain ⟨_,_,_,_,m⟩:=x2;exact m
     | bad c a=>rw [hp] at x2;exact x2.2.2.1
    have hn1:(K1++[.cells (yd (zd P k)) 0 false])[b]?=some (.cells (xt op w n.pl l r n.set) 0 false):=zm _ (m1.keep b _ hbo (by have:=hbS.1;omega) (by have:=hbS.1;omega))
    have hn2:K2[b]?=some (.cells (xt op w n.pl l r n.set) 0 false):=m12.keep b _ hbo (by have:=hbS.1;omega) (by have:=hbS.1;omega)
    have ht2:K2[K1.length]?=some (.cells (yd (zd P k)) 0 false):=mx.keep _ _ (by simp) (by have:=e1.lr;omega) (by have:=e1.lc;omega)
    have r1:∀j,Heap.read1 (K1++[.cells (yd (zd P k)) 0 false]) ⟨b,j,some 0⟩=(xt op w n.pl l r n.set)[j]?:=fun j=>zr hn1
    have r2:Heap.read1 K2 ⟨b,2,some 0⟩=some (.int .i64 (n.pl:Int)):=zr hn2
    have r3:Heap.read1 K2 ⟨K1.length,1,some 0⟩=some (str (zd P k).text):=zr ht2
    have a1:zbd K2 (.pointer (some ⟨K1.length,1,some 0⟩)) (str (zd P k).text)=some (undef,K2):=fu r3 rfl
    have a2:zbd K2 (.pointer (some ⟨b,2,some 0⟩)) (.int .i64 (n.pl:Int))=some (undef,K2):=fu r2 rfl
    have r1':(xt op w n.pl l r n.set)[2]?=some (.int .i64 (n.pl:Int)):=rfl
    simp only [zi,zb,ypc,yor,zg,ze,zak,ym,jk,zk,yg,y7,ok_0 eK,hw,hk3,hct,hk4,yg,y7,eK.r0,q1,pm,qi,q2,r1,r1',a1,a2,zg,ze,pkA,pkB]
    cases hp:part (P.L.drop (k+1)) with
    | ok x r'=>
     rw [hp] at x2 hstep
     obtain ⟨k',rfl,e2,t2,_⟩:=x2
     have hlt:=hs _ _ _ hp
     simp only [ypf] at hlt
     refine ⟨P.L.length - k'+1,by have:=e2.le;omega,.inl ⟨_,k',.bin false o n x,_,(junk rfl).elim fun j hj=>⟨j,rfl,e2.more _,?_,(mK.trans m12).more _,hstep.symm,hj⟩⟩⟩
     have l1:=m12.le;have l0:=mK.le;have lm:=m1.le
     have lx:K1.length+1≤K2.length:=by have:=mx.le;simpa using this
     refine ⟨K2.length,Iv h.length K.length,Iv (K1.length+1) K2.length,pt b,pt b2,rfl,⟨by omega,by simp⟩,?_,?_,?_,?_,?_⟩
     ·rw [ho2];simp [xt]
     ·exact (tK.keep fun c o hc ho=>m12.keep c o ho (by have:=hc.1;omega) (by have:=hc.1;omega)).keep fun c o hc ho=>zm _ ho
     ·have:(K1++[AObj.cells (yd (zd P k)) 0 false]).length=K1.length+1:=by simp
      rw [this] at t2
      exact t2.keep fun c o hc ho=>zm _ ho
     ·intro z hz
      have:=hz.1;have:=hz.2
      exact ⟨⟨by omega,by simp;omega⟩,by omega,fun h3=>by have:=h3.1;omega⟩
     ·intro z hz
      have:=hz.1;have:=hz.2
      exact ⟨⟨by omega,by simp;omega⟩,by omega⟩
    | bad c a=>
     rw [hp] at x2 hstep
     obtain ⟨hc,⟨k',e2⟩,_,_⟩:=x2
     exact ⟨0,by omega,.inr ⟨_,k',c,a,_,(junk rfl).elim fun j hj=>⟨j,rfl,hstep,hc,e2.more _,(mK.trans m12).more _,hj⟩⟩⟩
  ·simp only [zi,zy,fz eK hc,zy,jn,pkA]
   rw [hb]
   exact ⟨hc,⟨k,eK⟩,mK,_,rfl⟩
 ·unfold zas at hR
  cases hp:part (P.L.drop i) with
  | ok n r=>
   rw [hp] at x0 hR
   obtain ⟨k,rfl,e0,t0,m0⟩:=x0
   have hlt:=hs _ _ _ hp
   simp only [ypf] at hlt
   left
   refine ⟨h0,k,n,v0,(junk rfl).elim fun j hj=>⟨j,by simp,e0,t0,m0,?_,hj⟩⟩
   rw [hR]
   exact zjw hs _ _ _ _ (by simp) (yoz _)
  | bad c p=>
   rw [hp] at x0 hR
   obtain ⟨hc,⟨k,e0⟩,m0,b,rfl⟩:=x0
   right
   exact ⟨h0,k,c,p,b,(junk rfl).elim fun j hj=>⟨j,rfl,hR,hc,e0,m0,hj⟩⟩
theorem zf5 {t:Tok} {m:Bys} (hm:m≠[]) (h:(keyT t==m)=true):t.text=m∧t.kind≠2:=by
 unfold keyT at h
 by_cases h2:t.kind=2
 ·rw [if_pos h2] at h;exact absurd (by simpa using h) hm
 ·rw [if_neg h2] at h;exact ⟨by simpa using h,h2⟩
theorem zps {P:RP} {k:Nat} {m:Bys} (hm:m≠[]) (h:(keyT (zd P k)==m)=true):k<P.L.length:=by
 by_cases hk:k<P.L.length
 ·exact hk
 ·rw [xx hk,zbb] at h;exact absurd (by simpa using h) hm
theorem zzt (P:RP) (k:Nat):zgh (P.L.drop k)=((zd P k).kind==2 || (bw (zd P k) || (keyT (zd P k)==[40] || keyT (zd P k)==[91]))):=by
 by_cases hk:k<P.L.length
 ·rw [jx hk];rfl
 ·rw [yo5 (by omega),xx hk];rfl
theorem yc8 (P:RP) (f:List Tok→PR Ex) (k:Nat):inv2 P.en f (P.L.drop k)=if keyT (zd P k)==[45] then inv3 P.en f (P.L.drop (k+1)) else .bad (k9 P k) (gt P k):=by
 unfold k9 gt
 by_cases hk:k<P.L.length
 ·rw [jx hk,inv2,if_pos hk,if_pos hk]
 ·rw [yo5 (by omega),xx hk,if_neg hk,if_neg hk];rfl
theorem ydd (P:RP) (f:List Tok→PR Ex) (k:Nat):inv3 P.en f (P.L.drop k)=if (zd P k).kind==2&&(zd P k).n==1 then f (P.L.drop (k+1)) else .bad (k9 P k) (gt P k):=by
 unfold k9 gt
 by_cases hk:k<P.L.length
 ·rw [jx hk,inv3,if_pos hk,if_pos hk]
 ·rw [yo5 (by omega),xx hk,if_neg hk,if_neg hk];rfl
theorem yjr (P:RP) (n:Ex) (k:Nat):pj P.en P.L.length n (P.L.drop k)=if keyT (zd P k)==[43] then pj P.en P.L.length (.un .plus n) (P.L.drop (k+1))
  else if keyT (zd P k)==[63] then pj P.en P.L.length (.un .maybe n) (P.L.drop (k+1))
  else if keyT (zd P k)==[42]&& !zgh (P.L.drop (k+1)) then pj P.en P.L.length (.un .star n) (P.L.drop (k+1))
  else if keyT (zd P k)==[94] then inv2 P.en (fun r=>pj P.en P.L.length (.un .inv n) r) (P.L.drop (k+1))
  else .ok n (P.L.drop k):=by
 by_cases hk:k<P.L.length
 ·obtain ⟨q,hq⟩:∃q,P.L.length=q+1:=⟨P.L.length - 1,by omega⟩
  have f:∀(x:Ex) (r:List Tok),r.length<P.L.length - k→pj P.en q x r=pj P.en (q+1) x r:=fun x r hr=>zbl _ _ _ _ _ (by omega) (by omega)
  have hl:(P.L.drop (k+1)).length<P.L.length - k:=by simp;omega
  rw [jx hk,hq,pj,f _ _ hl,f _ _ hl,f _ _ hl,zlo fun r hr=>f (.un .inv n) r (by omega)]
 ·rw [yo5 (by omega),xx hk]
  cases P.L.length <;> rfl
theorem zmg (t:Tok):((t.kind:Int)==2)=(t.kind==2):=by rw [yp7];simp;omega
theorem yd0 {h K:Heap} {b:Nat} {n:Ex} {o:Op1} (t:TreeP K (Iv h.length K.length) (pt b) n) {L:Heap} {j:Nat} (hL:L[j]?=some (.cells (xt (op1S o) [] n.pl (pt b) nilP false) 0 false)) (hh:h.length≤K.length):TreeP (K++L) (Iv h.length (K++L).length) (pt (K.length+j)) (.un o n):=by
 have hj:=(yoq.1 hL).1
 refine ⟨K.length+j,Iv h.length K.length,pt b,rfl,⟨by omega,by simp;omega⟩,?_,t.keep fun c o _ ho=>zm _ ho,fun y hy=>⟨⟨hy.1,by have:=hy.2;simp;omega⟩,by have:=hy.2;omega⟩⟩
 rw [ypn (by omega),Nat.add_sub_cancel_left];exact hL
def BehS (P:RP) (h:Heap) (d:Nat) (R:PR Ex) (m:Nat) (K:Heap) (k:Nat) (v:Value):Prop:=(∃n,m=P.L.length - k+1∧Rd P K k d 0 0∧TreeP K (Iv h.length K.length) v n∧Mv P h K∧pj P.en P.L.length n (P.L.drop k)=R)∨(∃c p b,
 m=0∧v=pt b∧R=.bad c p∧c≠0∧Rd P K k d c p∧Mv P h K)
def BehI (P:RP) (h:Heap) (d:Nat) (R:PR Ex) (m:Nat) (st:St):Prop:=∃K k v,(∃j:Nat→Value,st=⟨[pt P.r,j 1,.pointer none,v,j 4,j 5,j 6,j 7,j 8,j 9,j 10,j 11,j 12,j 13,j 14,j 15,j 16,j 17,j 18,j 19,j 20,j 21,j 22,j 23,j 24,j 25,j 26,j 27,j 28,j 29,j 30,j 31,j 32,j 33,j 34,j 35,j 36,j 37,j 38,j 39,j 40,j 41,j 42,j 43,j 44,j 45,j 46,j 47,j 48,j 49,j 50,j 51,j 52,j 53,j 54,j 55,j 56,j 57,j 58,j 59,j 60,j 61,j 62,j 63,j 64,j 65,j 66,j 67,j 68,j 69,j 70,j 71,j 72,j 73,j 74,j 75,j 76,j 77,j 78,j 79,j 80,j 81,j 82,j 83,j 84,j 85,j 86],K⟩)∧BehS P h d R m K k v
theorem b6 (op w:Bys) (a:Nat) (l r:Value) (s:Bool):(xt op w a l r s)[2]?=some (.int .i64 (a:Int)):=rfl
set_option maxHeartbeats 2000000 in
theorem yg0 {P:RP} {d:Nat} {prim:List Tok→PR Ex} (hF:zed P gf d prim) (hs:Shr prim):zed P qf d (znp P.en prim):=by
 intro h i e
 refine yb zdx ?_
 obtain ⟨v0,h0,q0,x0⟩:=hF h i e
 simp only [zbe,yos,zf,q0,pkA,pkB]
 obtain ⟨R,hR⟩:∃R,R=znp P.en prim (P.L.drop i):=⟨_,rfl⟩
 rw [←hR]
 have lr:=e.lr;have lc:=e.lc
 refine zgx (BehI P h d R) ?_ (match prim (P.L.drop i) with | .ok n r=>r.length+1 | .bad c p=>0) _ ?_
 ·rintro m st ⟨K,k,v,⟨j,rfl⟩,⟨n,rfl,eK,tK,mK,hb⟩ | ⟨c,p,b,rfl,rfl,hb,hc,eK,mK⟩⟩
  ·have i43:=is_c eK (m:=43) (by decide)
   have i63:=is_c eK (m:=63) (by decide)
   have i42:=is_c eK (m:=42) (by decide)
   have i94:=is_c eK (m:=94) (by decide)
   have hw1:=zmb eK 1 (by omega)
   simp only [yov] at hw1
   have hbg:=ygf (zd P (k+1)) (zyu P (k+1)) K
   rw [←zzt] at hbg
   obtain ⟨b,op,w,l,r,rfl,hbS,hbo⟩:=tK.root
   have l0:=mK.le
   rw [yjr] at hb
   have one:∀(o:Op1),(keyT (zd P k)==op1S o)=true→R=pj P.en P.L.length (.un o n) (P.L.drop (k+1))→
     ∃K1,DF FF y9 [pt P.c] K=some (tup [agg (yd (zd P k)),.bool true],K1)∧(zd P k).text=op1S o∧(∀j,Heap.read1 (K1++[.cells (yd (zd P k)) 0 false]) ⟨b,j,some 0⟩=(xt op w n.pl l r n.set)[j]?)∧
      ∃m',m'<P.L.length - k+1∧BehS P h d R m' (K1++[.cells (yd (zd P k)) 0 false,.cells (xt (op1S o) [] n.pl (pt b) nilP false) 0 false]) (k+1) (pt (K1.length+1)):=by
    intro o hk hR2
    have hne:op1S o≠[]:=by cases o <;> simp [op1S]
    have hlt:=zps hne hk
    obtain ⟨K1,q1,e1,m1⟩:=zjx eK hlt
    have tn1:TreeP K1 (Iv h.length K1.length) (pt b) n:=(tK.keep fun c o hc ho=>m1.keep c o ho (by have:=hc.1;omega) (by have:=hc.1;omega)).weak fun c hc=>⟨hc.1,by have:=hc.2;have:=m1.le;omega⟩
    refine ⟨K1,q1,(zf5 hne hk).1,fun j=>zr (zm _ (m1.keep b _ hbo (by have:=hbS.1;omega) (by have:=hbS.1;omega))),P.L.length - (k+1)+1,by omega,.inl ⟨.un o n,rfl,e1.more _,?_,(mK.trans m1).more _,hR2.symm⟩⟩
    exact yd0 tn1 (L:=[.cells (yd (zd P k)) 0 false,.cells (xt (op1S o) [] n.pl (pt b) nilP false) 0 false]) (j:=1) rfl (by have:=m1.le;omega)
   cases k43:(keyT (zd P k)==[43])
   ·cases k63:(keyT (zd P k)==[63])
    ·cases k42:(keyT (zd P k)==[42]&& !zgh (P.L.drop (k+1)))
     ·rw [k43,k63,k42] at hb
      simp only [yoy,if_false] at hb
      have skip:∀(Q:Prop),((keyT (zd P k)==[42])=false→Q)→((keyT (zd P k)==[42])=true∧zgh (P.L.drop (k+1))=true→Q)→Q:=fun Q a b=>by
       cases h1:(keyT (zd P k)==[42])
       ·exact a h1
       ·rw [h1,yp2,Bool.not_eq_false'] at k42;exact b ⟨h1,k42⟩
      cases k94:(keyT (zd P k)==[94])
      ·rw [k94] at hb
       simp only [yoy,if_false] at hb
       have done:ExR P h d (pt b) K R:=by rw [←hb];exact ⟨k,rfl,eK,tK,mK⟩
       refine skip _ (fun s1=> ?_) fun s1=> ?_
       ·simp only [zi,zy,ok_0 eK,i43,i63,i42,i94,k43,k63,s1,k94,zy,jn,pkA]
        exact done
       ·simp only [zi,zb,zy,ok_0 eK,i43,i63,i42,i94,k43,k63,s1.1,hw1,hbg,s1.2,k94,zy,jn,pkA]
        exact done
      ·rw [k94] at hb
       simp only [if_true] at hb
       rw [yc8] at hb
       have hlt:=zps (by simp) k94
       obtain ⟨K1,q1,e1,m1⟩:=zjx eK hlt
       obtain ⟨K2,q2,e2,m2⟩:=zw5 e1 (m:=[45]) (by simp)
       have m12:=m1.trans m2
       have tree:∀K3,Mv P K2 K3→TreeP K3 (Iv h.length K3.length) (pt b) n:=fun K3 m3=>(tK.keep fun c o hc ho=>(m12.trans m3).keep c o ho (by have:=hc.1;omega) (by have:=hc.1;omega)).weak fun c hc=>⟨hc.1,by have:=hc.2;have:=(m12.trans m3).le;omega⟩
       have root:∀K3 L,Mv P K2 K3→∀j,Heap.read1 (K3++L) ⟨b,j,some 0⟩=(xt op w n.pl l r n.set)[j]?:=fun K3 L m3 j=>zr (zm _ ((m12.trans m3).keep b _ hbo (by have:=hbS.1;omega) (by have:=hbS.1;omega)))
       have root0:∀K3,Mv P K2 K3→∀j,Heap.read1 K3 ⟨b,j,some 0⟩=(xt op w n.pl l r n.set)[j]?:=fun K3 m3 j=>zr ((m12.trans m3).keep b _ hbo (by have:=hbS.1;omega) (by have:=hbS.1;omega))
       cases k45:(keyT (zd P (k+1))==[45])
       ·rw [k45] at e2 hb
        rw [if_neg yo1] at e2 hb
        have hw:=zmb e2 0 (by omega)
        rw [yqe,yov] at hw
        have nok:=fun L=>fz (e2.more L) (wq P (k+1))
        have fin:BehS P h d R 0 (K2++[.cells (yd (zd P (k+1))) 0 false,.cells (xt [94] [] n.pl (pt b) nilP false) 0 false]) (k+1) (pt (K2.length+1)):=
         .inr ⟨_,_,_,rfl,rfl,hb.symm,wq P (k+1),e2.more _,(mK.trans m12).more _⟩
        refine skip _ (fun s1=> ?_) fun s1=> ?_
        ·simp only [zi,zb,ypc,yor,zg,ze,ym,jk,zk,ok_0 eK,i43,i63,i42,i94,k43,k63,s1,k94,eK.r0,q1,q2,hw,nok,root K2 _ (Mv.refl P K2),b6,zg,ze,pkA,pkB]
         exact ⟨0,by omega,_,_,_,junk rfl,fin⟩
        ·simp only [zi,zb,ypc,yor,zg,ze,ym,jk,zk,ok_0 eK,i43,i63,i42,i94,k43,k63,s1.1,hw1,hbg,s1.2,k94,eK.r0,q1,q2,hw,nok,root K2 _ (Mv.refl P K2),b6,zg,ze,pkA,pkB]
         exact ⟨0,by omega,_,_,_,junk rfl,fin⟩
       ·rw [k45] at e2 hb
        rw [if_pos rfl] at e2 hb
        rw [ydd] at hb
        have hw:=zmb e2 0 (by omega)
        rw [yqe,yov] at hw
        have yok:=fun L=>ok_0 (e2.more L)
        cases k1:((zd P (k+1+1)).kind==2&&(zd P (k+1+1)).n==1)
        ·rw [k1,if_neg yo1] at hb
         obtain ⟨K3,q3,e3,m3⟩:=zhc (e2.more [.cells (yd (zd P (k+1+1))) 0 false])
         have m3':Mv P K2 K3:=(Mv.add P K2 _).trans m3
         have fin:BehS P h d R 0 (K3++[.cells (xt [94] [] n.pl (pt b) nilP false) 0 false]) (k+1+1) (pt K3.length):=
          .inr ⟨_,_,_,rfl,rfl,hb.symm,wq P (k+1+1),e3.more _,((mK.trans m12).trans m3').more _⟩
         cases kk:((zd P (k+1+1)).kind==2)
         ·refine skip _ (fun s1=> ?_) fun s1=> ?_
          ·simp only [zi,zb,ypc,yor,zg,ze,ym,jk,zk,yg,ok_0 eK,i43,i63,i42,i94,k43,k63,s1,k94,eK.r0,q1,q2,hw,yok,zmg,kk,q3,root0 K3 m3',b6,zg,ze,pkA,pkB]
           exact ⟨0,by omega,_,_,_,junk rfl,fin⟩
          ·simp only [zi,zb,ypc,yor,zg,ze,ym,jk,zk,yg,ok_0 eK,i43,i63,i42,i94,k43,k63,s1.1,hw1,hbg,s1.2,k94,eK.r0,q1,q2,hw,yok,zmg,kk,q3,root0 K3 m3',b6,zg,ze,pkA,pkB]
           exact ⟨0,by omega,_,_,_,junk rfl,fin⟩
         ·rw [kk,yp2] at k1
          refine skip _ (fun s1=> ?_) fun s1=> ?_
          ·simp only [zi,zb,ypc,yor,zg,ze,ym,jk,zk,yg,zb7,ok_0 eK,i43,i63,i42,i94,k43,k63,s1,k94,eK.r0,q1,q2,hw,yok,zmg,kk,k1,q3,root0 K3 m3',b6,zg,ze,pkA,pkB]
           exact ⟨0,by omega,_,_,_,junk rfl,fin⟩
          ·simp only [zi,zb,ypc,yor,zg,ze,ym,jk,zk,yg,zb7,ok_0 eK,i43,i63,i42,i94,k43,k63,s1.1,hw1,hbg,s1.2,k94,eK.r0,q1,q2,hw,yok,zmg,kk,k1,q3,root0 K3 m3',b6,zg,ze,pkA,pkB]
           exact ⟨0,by omega,_,_,_,junk rfl,fin⟩
        ·rw [k1,if_pos rfl] at hb
         rw [ypi] at k1
         have hlt3:k+1+1<P.L.length:=by
          by_cases hk:k+1+1<P.L.length
          ·exact hk
          ·rw [xx hk] at k1;cases k1.1
         obtain ⟨K3,q3,e3,m3⟩:=zjx (e2.more [.cells (yd (zd P (k+1+1))) 0 false]) hlt3
         have m3':Mv P K2 K3:=(Mv.add P K2 _).trans m3
         have tn3:=tree K3 m3'
         have fin:BehS P h d R (P.L.length - (k+1+1+1)+1) (K3++[.cells (xt [94] [] n.pl (pt b) nilP false) 0 false]) (k+1+1+1) (pt K3.length):=
          .inl ⟨.un .inv n,rfl,e3.more _,yd0 tn3 (o:=.inv) (L:=[.cells (xt [94] [] n.pl (pt b) nilP false) 0 false]) (j:=0) rfl (by have:=(m12.trans m3').le;omega),((mK.trans m12).trans m3').more _,hb⟩
         refine skip _ (fun s1=> ?_) fun s1=> ?_
         ·simp only [zi,zb,ypc,yor,zg,ze,ym,jk,zk,yg,zb7,ok_0 eK,i43,i63,i42,i94,k43,k63,s1,k94,eK.r0,q1,q2,hw,yok,zmg,k1.1,k1.2,e2.r1,q3,root0 K3 m3',b6,zg,ze,pkA,pkB]
          exact ⟨_,by omega,_,_,_,junk rfl,fin⟩
         ·simp only [zi,zb,ypc,yor,zg,ze,ym,jk,zk,yg,zb7,ok_0 eK,i43,i63,i42,i94,k43,k63,s1.1,hw1,hbg,s1.2,k94,eK.r0,q1,q2,hw,yok,zmg,k1.1,k1.2,e2.r1,q3,root0 K3 m3',b6,zg,ze,pkA,pkB]
          exact ⟨_,by omega,_,_,_,junk rfl,fin⟩
     ·rw [k43,k63,k42] at hb
      simp only [yoy,if_false,if_true] at hb
      rw [ypi,Bool.not_eq_true'] at k42
      obtain ⟨K1,q1,ht,rt,m',l',hx⟩:=one .star k42.1 hb.symm
      simp only [zi,zb,ypc,yor,zg,ze,ym,jk,zk,y7,ok_0 eK,i43,i63,i42,k43,k63,k42.1,hw1,hbg,k42.2,eK.r0,q1,rt,b6,ht,op1S,zg,ze,pkA,pkB]
      exact ⟨m',l',_,_,_,junk rfl,hx⟩
    ·rw [k43,k63] at hb
     simp only [yoy,if_false,if_true] at hb
     obtain ⟨K1,q1,ht,rt,m',l',hx⟩:=one .maybe k63 hb.symm
     simp only [zi,zb,ypc,yor,zg,ze,ym,jk,zk,y7,ok_0 eK,i43,i63,k43,k63,eK.r0,q1,rt,b6,ht,op1S,zg,ze,pkA,pkB]
     exact ⟨m',l',_,_,_,junk rfl,hx⟩
   ·rw [k43] at hb
    simp only [if_true] at hb
    obtain ⟨K1,q1,ht,rt,m',l',hx⟩:=one .plus k43 hb.symm
    simp only [zi,zb,ypc,yor,zg,ze,ym,jk,zk,y7,ok_0 eK,i43,k43,eK.r0,q1,rt,b6,ht,op1S,zg,ze,pkA,pkB]
    exact ⟨m',l',_,_,_,junk rfl,hx⟩
  ·simp only [zy,fz eK hc,zy,jn,pkA]
   rw [hb]
   exact ⟨hc,⟨k,eK⟩,mK,_,rfl⟩
 ·unfold znp at hR
  cases hp:prim (P.L.drop i) with
  | ok n r=>
   rw [hp] at x0 hR
   obtain ⟨k,rfl,e0,t0,m0⟩:=x0
   refine ⟨h0,k,v0,junk rfl,.inl ⟨n,by simp,e0,t0,m0,?_⟩⟩
   rw [hR]
   exact zbl _ _ _ _ _ (by simp) (yoz _)
  | bad c p=>
   rw [hp] at x0 hR
   obtain ⟨hc,⟨k,e0⟩,m0,b,rfl⟩:=x0
   exact ⟨h0,k,_,junk rfl,.inr ⟨c,p,b,rfl,rfl,hR,hc,e0,m0⟩⟩
theorem yld {P:RP} {post:List Tok→PR Ex} {ts:List Tok} {n:Ex} {k:Nat} (h:post ts=.ok n (P.L.drop k)):zo6 post ts=if keyT (zd P k)==[42] then (match post (P.L.drop (k+1)) with | .ok m r2=>.ok (.bin false .cross n m) r2 | .bad c a=>.bad c a) else .ok n (P.L.drop k):=by
 unfold zo6
 rw [h]
 by_cases hk:k<P.L.length
 ·rw [jx hk]
  all_goals
   simp only
   split
   ·cases post (P.L.drop (k+1))<;> rfl
   ·rfl
 ·rw [yo5 (by omega),xx hk];rfl
theorem yfj {P:RP} {d:Nat} {post:List Tok→PR Ex} (hF:zed P qf d post) (hs:Shr post):zed P jb d (zo6 post):=by
 intro h i e
 refine yb zc5 ?_
 obtain ⟨v0,K,q0,x0⟩:=hF h i e
 have lr:=e.lr;have lc:=e.lc
 cases hp:post (P.L.drop i) with
 | bad c p=>
  rw [hp] at x0
  obtain ⟨hc,⟨k,e0⟩,m0,b,rfl⟩:=x0
  have hR:zo6 post (P.L.drop i)=.bad c p:=by unfold zo6;rw [hp]
  rw [hR]
  simp only [j9,zi,yos,zy,zf,q0,fz e0 hc,zy,jn,pkA,pkB]
  exact ⟨hc,⟨k,e0⟩,m0,_,rfl⟩
 | ok n r0=>
  rw [hp] at x0
  obtain ⟨k,rfl,eK,tK,mK⟩:=x0
  rw [yld hp]
  have i42:=is_c eK (m:=42) (by decide)
  obtain ⟨b,op,w,l,r,rfl,hbS,hbo⟩:=tK.root
  cases k42:(keyT (zd P k)==[42])
  ·simp only [j9,zi,yos,zy,zf,q0,ok_0 eK,i42,k42,zy,jn,pkA,pkB]
   rw [if_neg yo1]
   exact ⟨k,rfl,eK,tK,mK⟩
  ·rw [if_pos rfl]
   obtain ⟨K1,q1,e1,m1⟩:=zjx eK (zps (by simp) k42)
   obtain ⟨v2,K2,q2,x2⟩:=hF K1 (k+1) e1
   have mx:Mv P K1 K2:=by
    cases hp2:post (P.L.drop (k+1)) with
    | ok x r'=>rw [hp2] at x2;obtain ⟨_,_,_,_,m⟩:=x2;exact m
    | bad c a=>rw [hp2] at x2;exact x2.2.2.1
   obtain ⟨b2,rfl⟩:=x2.ptr
   have m12:=m1.trans mx
   have r1:∀j,Heap.read1 K1 ⟨b,j,some 0⟩=(xt op w n.pl l r n.set)[j]?:=fun j=>zr (m1.keep b _ hbo (by have:=hbS.1;omega) (by have:=hbS.1;omega))
   have r2:Heap.read1 K2 ⟨b,2,some 0⟩=some (.int .i64 (n.pl:Int)):=zr (m12.keep b _ hbo (by have:=hbS.1;omega) (by have:=hbS.1;omega))
   have a2:zbd K2 (.pointer (some ⟨b,2,some 0⟩)) (.int .i64 (n.pl:Int))=some (undef,K2):=fu r2 rfl
   simp only [j9,zi,zb,ypc,yor,yos,zy,zg,ze,zak,zf,ym,jk,q0,ok_0 eK,i42,k42,eK.r0,q1,q2,r1,b6,a2,zg,ze,zy,jn,pkA,pkB]
   cases hp2:post (P.L.drop (k+1)) with
   | ok x r'=>
    rw [hp2] at x2
    obtain ⟨k',rfl,e2,t2,_⟩:=x2
    have l1:=m12.le;have l0:=mK.le;have lm:=m1.le;have lx:=mx.le
    refine ⟨k',rfl,e2.more _,?_,(mK.trans m12).more _⟩
    refine ⟨K2.length,Iv h.length K.length,Iv K1.length K2.length,pt b,pt b2,rfl,⟨by omega,by simp⟩,by simp [xt,op2S],?_,t2.keep fun c o hc ho=>zm _ ho,?_,?_⟩
    ·exact (tK.keep fun c o hc ho=>m12.keep c o ho (by have:=hc.1;omega) (by have:=hc.1;omega)).keep fun c o hc ho=>zm _ ho
    ·intro z hz
     have:=hz.1;have:=hz.2
     exact ⟨⟨by omega,by simp;omega⟩,by omega,fun h3=>by have:=h3.1;omega⟩
    ·intro z hz
     have:=hz.1;have:=hz.2
     exact ⟨⟨by omega,by simp;omega⟩,by omega⟩
   | bad c a=>
    rw [hp2] at x2
    obtain ⟨hc,⟨k',e2⟩,_,_⟩:=x2
    exact ⟨hc,⟨k',e2.more _⟩,(mK.trans m12).more _,_,rfl⟩
theorem Rd.upd {P:RP} {h K:Heap} {i d x a i' d' x' a' b:Nat} (e:Rd P h i d x a) (eK:Rd P K i' d' x' a') (hb:h.length≤b) (o:AObj):Rd P (K.set b o) i' d' x' a':=by
 have lr:=e.lr;have lc:=e.lc
 refine ⟨?_,?_,?_,?_,eK.le⟩
 ·rw [you (by omega)];exact eK.hr
 ·rw [you (by omega)];exact eK.hc
 ·exact eK.sw.keep fun c hc o' ho=>by rw [you (by have:=e.sw.lt hc;omega)];exact ho
 ·exact eK.sc.keep fun c hc o' ho=>by rw [you (by have:=e.sc.lt hc;omega)];exact ho
theorem Mv.upd {P:RP} {h K:Heap} {b:Nat} (m:Mv P h K) (hb:h.length≤b) (o:AObj):Mv P h (K.set b o):=
 ⟨fun c o' ho n1 n2=>by rw [you (by have:=(yoq.1 ho).1;omega)];exact m.keep c o' ho n1 n2,by rw [yo3];exact m.le⟩
theorem yl3 {P:RP} {t:Tok} {f:List Tok→PR Ex} {ts:List Tok} {n:Ex} {k:Nat} (h:f ts=.ok n (P.L.drop k)):brkP P.en t ts (some f)=if keyT t==[40] then (if keyT (zd P k)==[41] then .ok (.par false t.at_ n) (P.L.drop (k+1)) else .bad (k9 P k) (gt P k)) else (if keyT (zd P k)==[93] then .ok (.box t.at_ n) (P.L.drop (k+1)) else .bad (k9 P k) (gt P k)):=by
 have c:∀(cl:Bys) (x:Ex),cl≠[]→zly P.en cl x (P.L.drop k)=if keyT (zd P k)==cl then .ok x (P.L.drop (k+1)) else .bad (k9 P k) (gt P k):=fun cl x hcl=>by
  unfold k9 gt
  by_cases hk:k<P.L.length
  ·rw [jx hk,zly,if_pos hk,if_pos hk]
  ·rw [yo5 (by omega),xx hk,if_neg hk,if_neg hk,zly,zbb]
   rw [if_neg (by simpa using hcl)]
 rw [brkP,h]
 simp only [brP]
 rw [c _ _ (by simp),c _ _ (by simp)]
theorem yj3 {P:RP} {t:Tok} {f:List Tok→PR Ex} {ts:List Tok} {c a:Nat} (h:f ts=.bad c a):brkP P.en t ts (some f)=.bad c a:=by
 rw [brkP,h];simp only [brP];split <;> rfl
def znn (P:RP) (d:Nat):Option (List Tok→PR Ex)→Prop
 | none=>32≤d
 | some f=>d<32∧zed P yu (d+1) f
theorem ykh (P:RP) (inner:Option (List Tok→PR Ex)) (k:Nat):zmk P.en inner (P.L.drop k)=if keyT (zd P k)==[40] || keyT (zd P k)==[91] then brkP P.en (zd P k) (P.L.drop (k+1)) inner
  else if (zd P k).kind==2&&(zd P k).n==0 then .ok (.zero (zd P k).at_) (P.L.drop (k+1))
  else if bw (zd P k) then .ok (.name false (zd P k).at_ (zd P k).text) (P.L.drop (k+1))
  else .bad (k9 P k) (gt P k):=by
 unfold k9 gt
 by_cases hk:k<P.L.length
 ·rw [jx hk,zmk,if_pos hk,if_pos hk]
 ·rw [yo5 (by omega),xx hk,if_neg hk,if_neg hk];rfl
set_option maxHeartbeats 4000000 in
theorem ym8 {P:RP} {d:Nat} {inner:Option (List Tok→PR Ex)} (hin:znn P d inner):zed P gf d (zmk P.en inner):=by
 intro h i e
 refine yb zfr ?_
 have lr:=e.lr;have lc:=e.lc
 have hw:=zmb e 0 (by omega)
 rw [yqe,yov] at hw
 have i40:=is_c (e.more [.cells (yd (zd P i)) 0 false,.cells [str [],str [],.int .i64 (atV P i),nilP,nilP,.bool false] 0 false]) (m:=40) (by decide)
 have i91:=is_c (e.more [.cells (yd (zd P i)) 0 false,.cells [str [],str [],.int .i64 (atV P i),nilP,nilP,.bool false] 0 false]) (m:=91) (by decide)
 have e0:=e.more [.cells (yd (zd P i)) 0 false,.cells [str [],str [],.int .i64 (atV P i),nilP,nilP,.bool false] 0 false]
 have m0:Mv P h (h++[.cells (yd (zd P i)) 0 false,.cells [str [],str [],.int .i64 (atV P i),nilP,nilP,.bool false] 0 false]):=Mv.add P h _
 obtain ⟨H0,hH0⟩:∃H0,H0=h++[AObj.cells (yd (zd P i)) 0 false,.cells [str [],str [],.int .i64 (atV P i),nilP,nilP,.bool false] 0 false]:=⟨_,rfl⟩
 have o1:H0[h.length]?=some (.cells (yd (zd P i)) 0 false):=by rw [hH0];simp
 have o2:H0[h.length+1]?=some (.cells [str [],str [],.int .i64 (atV P i),nilP,nilP,.bool false] 0 false):=by rw [hH0];simp
 have l2:H0.length=h.length+2:=by rw [hH0];simp
 rw [←hH0] at i40 i91 e0 m0
 have t1:∀K,Mv P H0 K→∀j,Heap.read1 K ⟨h.length,j,some 0⟩=(yd (zd P i))[j]?:=fun K m j=>zr (m.keep _ _ o1 (by omega) (by omega))
 have t2:∀K,Mv P H0 K→K[h.length+1]?=some (.cells [str [],str [],.int .i64 (atV P i),nilP,nilP,.bool false] 0 false):=fun K m=>m.keep _ _ o2 (by omega) (by omega)
 rw [ykh]
 have hat:i<P.L.length→atV P i=((zd P i).at_:Int):=fun hk=>by unfold atV;rw [if_pos hk]
 cases hbr:(keyT (zd P i)==[40] || keyT (zd P i)==[91])
 ·rw [if_neg yo1]
  rw [ypu] at hbr
  cases h0:((zd P i).kind==2&&(zd P i).n==0)
  ·rw [if_neg yo1]
   have skip:∀(Q:Prop),(((zd P i).kind==2)=false→Q)→(((zd P i).kind==2)=true∧((zd P i).n==0)=false→Q)→Q:=fun Q a b=>by
    cases h1:((zd P i).kind==2)
    ·exact a h1
    ·rw [h1,yp2] at h0;exact b ⟨h1,h0⟩
   cases hn:bw (zd P i)
   ·rw [if_neg yo1]
    obtain ⟨K,q,eK,mK⟩:=zhc e0
    have fin:ExR P h d (pt (h.length+1)) K (.bad (k9 P i) (gt P i)):=⟨wq P i,⟨i,eK⟩,m0.trans mK,_,rfl⟩
    have hn2:(((zd P i).kind:Int)==1)=false∨(((zd P i).kind:Int)==1)=true∧kwL.contains (zd P i).text=true:=by
     have k1:(((zd P i).kind:Int)==1)=((zd P i).kind==1):=by rw [yp7];simp;omega
     rw [k1];unfold bw at hn
     cases hk:((zd P i).kind==1)
     ·exact .inl rfl
     ·rw [hk,yp2,Bool.not_eq_false'] at hn;exact .inr ⟨rfl,hn⟩
    refine skip _ (fun s1=> ?_) fun s1=> ?_
    ·rcases hn2 with hn2 | ⟨hn2,hn3⟩
     ·simp only [xa,zi,zb,ypc,yor,yos,zy,zg,ze,zf,zk,yg,hw,e.r1,at_c (e.more _),zg,ze,←hH0,ok_0 e0,i40,i91,hbr.1,hbr.2,t1 H0 (Mv.refl P H0),zmg,s1,hn2,q,zy,jn,pkA,pkB]
      exact fin
     ·simp only [xa,zi,zb,ypc,yor,yos,zy,zg,ze,zf,zk,yg,y7,hw,e.r1,at_c (e.more _),zg,ze,←hH0,ok_0 e0,i40,i91,hbr.1,hbr.2,t1 H0 (Mv.refl P H0),zmg,s1,hn2,zdm,hn3,q,zy,jn,pkA,pkB]
      exact fin
    ·rcases hn2 with hn2 | ⟨hn2,hn3⟩
     ·simp only [xa,zi,zb,ypc,yor,yos,zy,zg,ze,zf,zk,yg,zb7,hw,e.r1,at_c (e.more _),zg,ze,←hH0,ok_0 e0,i40,i91,hbr.1,hbr.2,t1 H0 (Mv.refl P H0),zmg,s1.1,s1.2,hn2,q,zy,jn,pkA,pkB]
      exact fin
     ·simp only [xa,zi,zb,ypc,yor,yos,zy,zg,ze,zf,zk,yg,y7,zb7,hw,e.r1,at_c (e.more _),zg,ze,←hH0,ok_0 e0,i40,i91,hbr.1,hbr.2,t1 H0 (Mv.refl P H0),zmg,s1.1,s1.2,hn2,zdm,hn3,q,zy,jn,pkA,pkB]
      exact fin
   ·rw [if_pos rfl]
    have hlt:=zmq P i hn
    obtain ⟨K,q,eK,mK⟩:=zjx e0 hlt
    have hk1:(((zd P i).kind:Int)==1)=true∧kwL.contains (zd P i).text=false:=by
     unfold bw at hn
     rw [ypi,beq_iff_eq,Bool.not_eq_true'] at hn
     exact ⟨by rw [hn.1];rfl,hn.2⟩
    have s1:((zd P i).kind==2)=false:=by
     have:=hk1.1;rw [beq_iff_eq] at this;rw [beq_eq_false_iff_ne];omega
    have oK:=t2 K mK
    have hlK:=(yoq.1 oK).1
    have r1:=t1 K mK
    have r2:∀l,Heap.read1 (K.set (h.length+1) (.cells l 0 false)) ⟨h.length,1,some 0⟩=some (str (zd P i).text):=fun l=>by
     rw [yg2 (by simp),r1];rfl
    have a1:∀l,zbd (K.set (h.length+1) (.cells l 0 false)) (.pointer (some ⟨h.length,1,some 0⟩)) (str (zd P i).text)=some (undef,K.set (h.length+1) (.cells l 0 false)):=fun l=>fu (r2 l) rfl
    simp only [xa,zi,zb,ypc,yor,yos,zy,zg,ze,zak,zf,z6,zk,yg,y7,hw,e.r1,at_c (e.more _),zg,ze,←hH0,ok_0 e0,i40,i91,hbr.1,hbr.2,t1 H0 (Mv.refl P H0),zmg,s1,hk1.1,zdm,hk1.2,e0.r0,q,r1,jo oK,a1,zi5 hlK,zy,jn,pkA,pkB]
    refine ⟨i+1,rfl,e.upd eK (by omega) _,⟨h.length+1,rfl,⟨by omega,by rw [yo3];exact hlK⟩,?_⟩,(m0.trans mK).upd (by omega) _⟩
    rw [yox hlK,hat hlt];rfl
  ·rw [if_pos rfl]
   rw [ypi] at h0
   have hlt:i<P.L.length:=by
    by_cases hk:i<P.L.length
    ·exact hk
    ·rw [xx hk] at h0;cases h0.1
   obtain ⟨K,q,eK,mK⟩:=zjx e0 hlt
   have oK:=t2 K mK
   have hlK:=(yoq.1 oK).1
   simp only [xa,zi,zb,ypc,yor,yos,zy,zg,ze,zf,z6,zk,yg,zb7,hw,e.r1,at_c (e.more _),zg,ze,←hH0,ok_0 e0,i40,i91,hbr.1,hbr.2,t1 H0 (Mv.refl P H0),zmg,h0.1,h0.2,e0.r0,q,jo oK,zy,jn,pkA,pkB]
   refine ⟨i+1,rfl,e.upd eK (by omega) _,⟨h.length+1,rfl,⟨by omega,by rw [yo3];exact hlK⟩,?_⟩,(m0.trans mK).upd (by omega) _⟩
   rw [yox hlK,hat hlt];rfl
 ·rw [if_pos rfl]
  have brk:∀(Q:Prop),((keyT (zd P i)==[40])=true∧(zd P i).text=[40]→Q)→((keyT (zd P i)==[40])=false∧(keyT (zd P i)==[91])=true∧(zd P i).text=[91]→Q)→Q:=fun Q a b=>by
   cases h1:(keyT (zd P i)==[40])
   ·rw [h1,ypz] at hbr
    exact b ⟨h1,hbr,(zf5 (by simp) hbr).1⟩
   ·exact a ⟨h1,(zf5 (by simp) h1).1⟩
  have hlt:i<P.L.length:=by
   rw [yqa] at hbr
   rcases hbr with hbr | hbr <;> exact zps (by simp) hbr
  have rt:Heap.read1 H0 ⟨h.length,3,some 0⟩=some (.int .i64 ((zd P i).at_:Int)):=by rw [t1 H0 (Mv.refl P H0)];rfl
  cases inner with
  | none=>
   have hd:32≤d:=hin
   have c1:((32:Int)≤(d:Int))=True:=by simp;omega
   obtain ⟨K,q,eK,mK⟩:=zl7 e0 2 (zd P i).at_ (by omega)
   simp only [yov] at q
   have fin:ExR P h d (pt (h.length+1)) K (brkP P.en (zd P i) (P.L.drop (i+1)) none):=⟨by omega,⟨i,eK⟩,m0.trans mK,_,rfl⟩
   refine brk _ (fun b1=> ?_) fun b1=> ?_
   ·simp only [xa,zi,zb,ypc,yor,yos,zy,zg,ze,zf,zk,hw,e.r1,at_c (e.more _),zg,ze,←hH0,ok_0 e0,i40,b1.1,e0.r0,c1,rt,q,zy,jn,pkA,pkB]
    exact fin
   ·simp only [xa,zi,zb,ypc,yor,yos,zy,zg,ze,zf,zk,hw,e.r1,at_c (e.more _),zg,ze,←hH0,ok_0 e0,i40,i91,b1.1,b1.2.1,e0.r0,c1,rt,q,zy,jn,pkA,pkB]
    exact fin
  | some f=>
   obtain ⟨hd,hF⟩:=hin
   have c1:((32:Int)≤(d:Int))=False:=by simp;omega
   obtain ⟨K1,q1,e1,m1⟩:=zjx e0 hlt
   obtain ⟨e1',m1'⟩:=e1.setR (d+1) 0 0
   have w1:IntKind.i64.wrap ((d:Int)+1)=((d+1:Nat):Int):=zs (by omega)
   have wr1:=e1.wr0 3 (by omega) (.int .i64 ((d+1:Nat):Int))
   simp only [List.set_cons_succ,List.set_cons_zero] at wr1
   obtain ⟨K1',hK1'⟩:∃K,K=K1.set P.r (.cells [pt P.c,P.ws,.int .i64 (P.en:Int),.int .i64 ((d+1:Nat):Int),.int .i64 ((0:Nat):Int),.int .i64 ((0:Nat):Int)] 0 false):=⟨_,rfl⟩
   rw [←hK1'] at e1' m1' wr1
   obtain ⟨v,K2,q2,x2⟩:=hF K1' (i+1) e1'
   obtain ⟨b2,rfl⟩:=x2.ptr
   have m2:Mv P K1' K2:=by
    cases hp:f (P.L.drop (i+1)) with
    | ok x r'=>rw [hp] at x2;obtain ⟨_,_,_,_,m⟩:=x2;exact m
    | bad c a=>rw [hp] at x2;exact x2.2.2.1
   have m02:Mv P H0 K2:=(m1.trans m1').trans m2
   have w2:IntKind.i64.wrap (((d+1:Nat):Int) - 1)=(d:Int):=by rw [zgz (by unfold W;omega)];omega
   cases hp:f (P.L.drop (i+1)) with
   | bad c a=>
    rw [hp] at x2
    obtain ⟨hc,⟨k,e2⟩,_,_⟩:=x2
    rw [yj3 hp]
    obtain ⟨e2',m2'⟩:=e2.setR d c a
    have wr2:=e2.wr0 3 (by omega) (.int .i64 (d:Int))
    simp only [List.set_cons_succ,List.set_cons_zero] at wr2
    obtain ⟨K2',hK2'⟩:∃K,K=K2.set P.r (.cells [pt P.c,P.ws,.int .i64 (P.en:Int),.int .i64 (d:Int),.int .i64 (c:Int),.int .i64 (a:Int)] 0 false):=⟨_,rfl⟩
    rw [←hK2'] at e2' m2' wr2
    have m02':=m02.trans m2'
    have oK:=t2 K2' m02'
    have hlK:=(yoq.1 oK).1
    have r1:=t1 K2' m02'
    refine brk _ (fun b1=> ?_) fun b1=> ?_
    ·simp only [xa,zi,zb,ypc,yor,yos,zy,zg,ze,zf,z6,yf,zk,y7,hw,e.r1,at_c (e.more _),zg,ze,←hH0,ok_0 e0,i40,b1.1,b1.2,e0.r0,c1,q1,e1.r0,w1,wr1,q2,e2.r0,w2,wr2,r1,zur e2' hc,jo oK,zi5 hlK,zy,jn,pkA,pkB]
     exact ⟨hc,⟨k,e.upd e2' (by omega) _⟩,(m0.trans m02').upd (by omega) _,_,rfl⟩
    ·simp only [xa,zi,zb,ypc,yor,yos,zy,zg,ze,zf,z6,yf,zk,y7,hw,e.r1,at_c (e.more _),zg,ze,←hH0,ok_0 e0,i40,i91,b1.1,b1.2.1,b1.2.2,e0.r0,c1,q1,e1.r0,w1,wr1,q2,e2.r0,w2,wr2,r1,zur e2' hc,jo oK,zi5 hlK,show (([91]:Bys)==[40])=false from rfl,zy,jn,pkA,pkB]
     exact ⟨hc,⟨k,e.upd e2' (by omega) _⟩,(m0.trans m02').upd (by omega) _,_,rfl⟩
   | ok n r0=>
    rw [hp] at x2
    obtain ⟨k,rfl,e2,tn,_⟩:=x2
    rw [yl3 hp]
    obtain ⟨e2',m2'⟩:=e2.setR d 0 0
    have wr2:=e2.wr0 3 (by omega) (.int .i64 (d:Int))
    simp only [List.set_cons_succ,List.set_cons_zero] at wr2
    obtain ⟨K2',hK2'⟩:∃K,K=K2.set P.r (.cells [pt P.c,P.ws,.int .i64 (P.en:Int),.int .i64 (d:Int),.int .i64 ((0:Nat):Int),.int .i64 ((0:Nat):Int)] 0 false):=⟨_,rfl⟩
    rw [←hK2'] at e2' m2' wr2
    have m02':=m02.trans m2'
    have lK1:K1'.length=K1.length:=by rw [hK1',yo3]
    have lK2:K2'.length=K2.length:=by rw [hK2',yo3]
    have la:=m1.le;have lb:=m2.le
    have tree:∀K3 (l:List Value),Mv P K2' K3→TreeP (K3.set (h.length+1) (.cells l 0 false)) (Iv K1'.length K2.length) (pt b2) n:=fun K3 l m3=>
     tn.keep fun c o hc ho=>by
      have:=hc.1
      rw [you (by omega)]
      exact (m2'.trans m3).keep c o ho (by omega) (by omega)
    have ends:∀K3 (l:List Value) (cl:Bys),Mv P K2' K3→∀y,Iv K1'.length K2.length y→Iv h.length (K3.set (h.length+1) (.cells l 0 false)).length y∧y≠h.length+1:=fun K3 l cl m3 y hy=>by
     have:=hy.1;have:=hy.2;have:=m3.le
     exact ⟨⟨by omega,by rw [yo3];omega⟩,by omega⟩
    refine brk _ (fun b1=> ?_) fun b1=> ?_
    ·rw [if_pos b1.1]
     obtain ⟨K3,q3,e3,m3⟩:=zw5 e2' (m:=[41]) (by simp)
     have m03:=m02'.trans m3
     have oK:=t2 K3 m03
     have hlK:=(yoq.1 oK).1
     simp only [xa,zi,zb,ypc,yor,yos,zy,zg,ze,zf,z6,yf,zk,y7,hw,e.r1,at_c (e.more _),zg,ze,←hH0,ok_0 e0,i40,b1.1,b1.2,e0.r0,c1,q1,e1.r0,w1,wr1,q2,e2.r0,w2,wr2,t1 K2' m02',q3,jo oK,zi5 hlK,zy,jn,pkA,pkB]
     cases k41:(keyT (zd P k)==[41])
     ·rw [k41,if_neg yo1] at e3
      rw [if_neg yo1]
      exact ⟨wq P k,⟨k,e.upd e3 (by omega) _⟩,(m0.trans m03).upd (by omega) _,_,rfl⟩
     ·rw [k41,if_pos rfl] at e3
      rw [if_pos rfl]
      refine ⟨k+1,rfl,e.upd e3 (by omega) _,⟨h.length+1,_,pt b2,rfl,⟨by omega,by rw [yo3];exact hlK⟩,?_,tree K3 _ m3,ends K3 _ [41] m3⟩,(m0.trans m03).upd (by omega) _⟩
      rw [yox hlK,hat hlt];rfl
    ·rw [if_neg (by rw [b1.1];exact yo1)]
     obtain ⟨K3,q3,e3,m3⟩:=zw5 e2' (m:=[93]) (by simp)
     have m03:=m02'.trans m3
     have oK:=t2 K3 m03
     have hlK:=(yoq.1 oK).1
     simp only [xa,zi,zb,ypc,yor,yos,zy,zg,ze,zf,z6,yf,zk,y7,hw,e.r1,at_c (e.more _),zg,ze,←hH0,ok_0 e0,i40,i91,b1.1,b1.2.1,b1.2.2,e0.r0,c1,q1,e1.r0,w1,wr1,q2,e2.r0,w2,wr2,t1 K2' m02',q3,jo oK,zi5 hlK,show (([91]:Bys)==[40])=false from rfl,zy,jn,pkA,pkB]
     cases k41:(keyT (zd P k)==[93])
     ·rw [k41,if_neg yo1] at e3
      rw [if_neg yo1]
      exact ⟨wq P k,⟨k,e.upd e3 (by omega) _⟩,(m0.trans m03).upd (by omega) _,_,rfl⟩
     ·rw [k41,if_pos rfl] at e3
      rw [if_pos rfl]
      refine ⟨k+1,rfl,e.upd e3 (by omega) _,⟨h.length+1,_,pt b2,rfl,⟨by omega,by rw [yo3];exact hlK⟩,?_,tree K3 _ m3,ends K3 _ [41] m3⟩,(m0.trans m03).upd (by omega) _⟩
      rw [yox hlK,hat hlt];rfl
theorem zq2 {t:Tok} (ht:zt5 t) {m:UInt8} (hm:(letV (m.toNat:Int) || (m.toNat:Int)==95)=false):((t.kind:Int)==3&&t.text==[m])=(keyT t==[m]):=by
 have hk:((t.kind:Int)==3)=decide (t.kind=3):=by rw [yp7];simp;omega
 rw [hk]
 unfold keyT
 rcases ht with ⟨h1,c,l,h2,h3⟩ | h1 | ⟨h1,c,l,h2,h3⟩
 ·have hne:((c::l:Bys)==[m])=false:=by
   rw [beq_eq_false_iff_ne];intro he;cases he;rw [hm] at h3;cases h3
  rw [h2]
  simp only [h1,hne,Nat.reduceEqDiff,decide_false,Bool.false_and,if_false]
 ·simp [h1]
 ·simp [h1]
theorem yhr:MarksOk [[124]] orM:=⟨rfl,by decide,fun t ht=>by
 have h:=zq2 ht (m:=124) (by decide)
 refine ⟨?_,fun o ho=> ?_⟩
 ·rw [show ([[124]]:List Bys).contains t.text=(t.text==[124]) by rw [yp7];simp,h];unfold orM;split <;> simp_all
 ·unfold orM at ho
  split at ho
  ·rename_i hk;cases ho;exact (zf5 (by simp) hk).1.symm
  ·cases ho⟩
theorem yel:MarksOk [[59]] seqM:=⟨rfl,by decide,fun t ht=>by
 have h:=zq2 ht (m:=59) (by decide)
 refine ⟨?_,fun o ho=> ?_⟩
 ·rw [show ([[59]]:List Bys).contains t.text=(t.text==[59]) by rw [yp7];simp,h];unfold seqM;split <;> simp_all
 ·unfold seqM at ho
  split at ho
  ·rename_i hk;cases ho;exact (zf5 (by simp) hk).1.symm
  ·cases ho⟩
theorem ydv:MarksOk [[38],[92]] andM:=⟨rfl,by decide,fun t ht=>by
 have h:=zq2 ht (m:=38) (by decide)
 have h':=zq2 ht (m:=92) (by decide)
 refine ⟨?_,fun o ho=> ?_⟩
 ·rw [show ([[38],[92]]:List Bys).contains t.text=(t.text==[38] || t.text==[92]) by rw [yp7];simp,Bool.and_or_distrib_left,h,h']
  unfold andM
  cases (keyT t==[38])<;> cases (keyT t==[92])<;> rfl
 ·unfold andM at ho
  split at ho
  ·rename_i hk;cases ho;exact (zf5 (by simp) hk).1.symm
  ·split at ho
   ·rename_i hk;cases ho;exact (zf5 (by simp) hk).1.symm
   ·cases ho⟩
theorem zzz {P:RP} {h:Heap} {i d x a:Nat} (e:Rd P h i d x a) (n c:Nat):blk (.slice (some ⟨h.length,0,some 0⟩) n c)≠some P.r∧blk (.slice (some ⟨h.length,0,some 0⟩) n c)≠some P.c:=by
 have:=e.lr;have:=e.lc
 exact ⟨fun h=>by simp [blk] at h;omega,fun h=>by simp [blk] at h;omega⟩
section
variable {P:RP} {d:Nat} {f:List Tok→PR Ex}
theorem ylc (hF:zed P jb d f) (hs:Shr f):zed P j4 d (zas f seqM):=by
 intro h i e
 refine yb zez ?_
 have hm:Sl (h++[.cells [str [59]] 0 false]) (.slice (some ⟨h.length,0,some 0⟩) 1 1) 1 ([[59]].map pd):=zoc h [59]
 obtain ⟨v,h',q,x⟩:=znm hF hs yel (e.more [.cells [str [59]] 0 false]) hm (zzz e 1 1).1 (zzz e 1 1).2
 obtain ⟨b,rfl⟩:=x.ptr
 simp only [zbu,yos,slc,zy,zf,ym,fm,q,zy,jn,pkA,pkB]
 cases hp:zas f seqM (P.L.drop i) with
 | ok n r=>
  rw [hp] at x
  obtain ⟨k,hk,e2,t2,m2⟩:=x
  exact ⟨k,hk,e2,t2.weak fun c hc=>⟨by have:=hc.1;simp at this;omega,hc.2⟩,(Mv.add P h _).trans m2⟩
 | bad c a=>
  rw [hp] at x
  exact ⟨x.1,x.2.1,(Mv.add P h _).trans x.2.2.1,_,rfl⟩
theorem yka (hF:zed P j4 d f) (hs:Shr f):zed P jy d (zas f andM):=by
 intro h i e
 refine yb zeu ?_
 have hm:Sl (h++[.cells [str [38],str [92]] 0 false]) (.slice (some ⟨h.length,0,some 0⟩) 2 1) 1 ([[38],[92]].map pd):=Sl.last h (by rfl) (by rfl) (by simp [pd]) 0 false
 obtain ⟨v,h',q,x⟩:=znm hF hs ydv (e.more [.cells [str [38],str [92]] 0 false]) hm (zzz e 2 1).1 (zzz e 2 1).2
 obtain ⟨b,rfl⟩:=x.ptr
 simp only [zb2,yor,yos,slc,zy,zf,ym,fm,q,zy,jn,pkA,pkB]
 cases hp:zas f andM (P.L.drop i) with
 | ok n r=>
  rw [hp] at x
  obtain ⟨k,hk,e2,t2,m2⟩:=x
  exact ⟨k,hk,e2,t2.weak fun c hc=>⟨by have:=hc.1;simp at this;omega,hc.2⟩,(Mv.add P h _).trans m2⟩
 | bad c a=>
  rw [hp] at x
  exact ⟨x.1,x.2.1,(Mv.add P h _).trans x.2.2.1,_,rfl⟩
theorem ztv (hF:zed P jy d f) (hs:Shr f):zed P yu d (zas f orM):=by
 intro h i e
 refine yb zb8 ?_
 have hm:Sl (h++[.cells [str [124]] 0 false]) (.slice (some ⟨h.length,0,some 0⟩) 1 1) 1 ([[124]].map pd):=zoc h [124]
 obtain ⟨v,h',q,x⟩:=znm hF hs yhr (e.more [.cells [str [124]] 0 false]) hm (zzz e 1 1).1 (zzz e 1 1).2
 obtain ⟨b,rfl⟩:=x.ptr
 simp only [b9,yos,slc,zy,zf,ym,fm,q,zy,jn,pkA,pkB]
 cases hp:zas f orM (P.L.drop i) with
 | ok n r=>
  rw [hp] at x
  obtain ⟨k,hk,e2,t2,m2⟩:=x
  exact ⟨k,hk,e2,t2.weak fun c hc=>⟨by have:=hc.1;simp at this;omega,hc.2⟩,(Mv.add P h _).trans m2⟩
 | bad c a=>
  rw [hp] at x
  exact ⟨x.1,x.2.1,(Mv.add P h _).trans x.2.2.1,_,rfl⟩
end
theorem yc1 {P:RP} {d:Nat} {inner:Option (List Tok→PR Ex)} (hin:znn P d inner) (hs:∀f,inner=some f→Shr f):zed P yu d (ydf P.en (zmk P.en inner)):=by
 have s0:=zko (e:=P.en) hs
 have p0:=ym8 hin
 have s1:=zoa (e:=P.en) s0
 have p1:=yg0 p0 s0
 have s2:=znr s1
 have p2:=yfj p1 s1
 have s3:=zbm (m:=seqM) s2
 have p3:=ylc p2 s2
 have s4:=zbm (m:=andM) s3
 have p4:=yka p3 s3
 exact ztv p4 s4
theorem ye2 (P:RP):∀k d,d+k=32→zed P yu d (zhj P.en k)
 | 0,d,h=>yc1 (show znn P d none from by unfold znn;omega) fun f hf=>by cases hf
 | k+1,d,h=>yc1 (show znn P d (some (zhj P.en k)) from ⟨by omega,ye2 P k (d+1) (by omega)⟩) fun f hf=>by cases hf;exact zdz _ _
section
variable {P:RP}
theorem yk4:zvf P gf:=by
 intro h i d c p e hc
 have:∃v h',DF FF gf [pt P.r] h=some (v,h')∧∃b,(v=pt b∧Rd P h' i d c p∧Mv P h h'):=by
  refine yb zfr ?_
  have hw:=zmb e 0 (by omega)
  rw [yqe,yov] at hw
  simp only [xa,zb,ypc,yor,yos,zy,zg,ze,zf,zk,hw,e.r1,at_c (e.more _),zg,ze,fz (e.more _) hc,zy,jn,pkA,pkB]
  exact ⟨_,rfl,e.more _,Mv.add P h _⟩
 obtain ⟨v,h',q,b,rfl,r⟩:=this
 exact ⟨b,h',q,r⟩
theorem ydt:zvf P qf:=by
 intro h i d c p e hc
 have:∃v h',DF FF qf [pt P.r] h=some (v,h')∧∃b,(v=pt b∧Rd P h' i d c p∧Mv P h h'):=by
  refine yb zdx ?_
  obtain ⟨b,K,q,eK,mK⟩:=yk4 h i d c p e hc
  simp only [zbe,yos,zy,zf,q,zb1,fz eK hc,zy,jn,pkA,pkB]
  exact ⟨_,rfl,eK,mK⟩
 obtain ⟨v,h',q,b,rfl,r⟩:=this
 exact ⟨b,h',q,r⟩
theorem zzg:zvf P jb:=by
 intro h i d c p e hc
 have:∃v h',DF FF jb [pt P.r] h=some (v,h')∧∃b,(v=pt b∧Rd P h' i d c p∧Mv P h h'):=by
  refine yb zc5 ?_
  obtain ⟨b,K,q,eK,mK⟩:=ydt h i d c p e hc
  simp only [j9,zi,yos,zy,zf,q,fz eK hc,zy,jn,pkA,pkB]
  exact ⟨_,rfl,eK,mK⟩
 obtain ⟨v,h',q,b,rfl,r⟩:=this
 exact ⟨b,h',q,r⟩
theorem zlp {F:FuncId} (hF:zvf P F) {h:Heap} {i d c p:Nat} (e:Rd P h i d c p) (hc:c≠0) (ms:Value):∃b h',DF FF vr [pt P.r,.func (.func F) [pt P.r].toArray [].toArray,ms] h=some (pt b,h')∧Rd P h' i d c p∧Mv P h h':=by
 have:∃v h',DF FF vr [pt P.r,.func (.func F) [pt P.r].toArray [].toArray,ms] h=some (v,h')∧∃b,(v=pt b∧Rd P h' i d c p∧Mv P h h'):=by
  refine yb zc9 ?_
  obtain ⟨b,K,q,eK,mK⟩:=hF h i d c p e hc
  simp only [za0,zi,yor,yos,zy,zf,pm,qi,q,zb1,fz eK hc,zy,jn,pkA,pkB]
  exact ⟨_,rfl,eK,mK⟩
 obtain ⟨v,h',q,b,rfl,r⟩:=this
 exact ⟨b,h',q,r⟩
theorem yh5:zvf P j4:=by
 intro h i d c p e hc
 have:∃v h',DF FF j4 [pt P.r] h=some (v,h')∧∃b,(v=pt b∧Rd P h' i d c p∧Mv P h h'):=by
  refine yb zez ?_
  obtain ⟨b,K,q,eK,mK⟩:=zlp zzg (e.more [.cells [str [59]] 0 false]) hc (.slice (some ⟨h.length,0,some 0⟩) 1 1)
  simp only [zbu,yos,slc,zy,zf,ym,fm,q,zy,jn,pkA,pkB]
  exact ⟨_,rfl,eK,(Mv.add P h _).trans mK⟩
 obtain ⟨v,h',q,b,rfl,r⟩:=this
 exact ⟨b,h',q,r⟩
theorem yf4:zvf P jy:=by
 intro h i d c p e hc
 have:∃v h',DF FF jy [pt P.r] h=some (v,h')∧∃b,(v=pt b∧Rd P h' i d c p∧Mv P h h'):=by
  refine yb zeu ?_
  obtain ⟨b,K,q,eK,mK⟩:=zlp yh5 (e.more [.cells [str [38],str [92]] 0 false]) hc (.slice (some ⟨h.length,0,some 0⟩) 2 1)
  simp only [zb2,yor,yos,slc,zy,zf,ym,fm,q,zy,jn,pkA,pkB]
  exact ⟨_,rfl,eK,(Mv.add P h _).trans mK⟩
 obtain ⟨v,h',q,b,rfl,r⟩:=this
 exact ⟨b,h',q,r⟩
theorem zkj:zvf P yu:=by
 intro h i d c p e hc
 have:∃v h',DF FF yu [pt P.r] h=some (v,h')∧∃b,(v=pt b∧Rd P h' i d c p∧Mv P h h'):=by
  refine yb zb8 ?_
  obtain ⟨b,K,q,eK,mK⟩:=zlp yf4 (e.more [.cells [str [124]] 0 false]) hc (.slice (some ⟨h.length,0,some 0⟩) 1 1)
  simp only [b9,yos,slc,zy,zf,ym,fm,q,zy,jn,pkA,pkB]
  exact ⟨_,rfl,eK,(Mv.add P h _).trans mK⟩
 obtain ⟨v,h',q,b,rfl,r⟩:=this
 exact ⟨b,h',q,r⟩
end
theorem zhn {e:Nat} {ts r:List Tok} {g:Gv} (h:znc e ts=.ok g r):r.length<ts.length:=by
 unfold znc at h
 cases ts with
 | nil=>cases h
 | cons t ts=>
  rw [zpo] at h
  split at h
  ·cases h
  ·rename_i w r0 hn
   have h0:r0.length<(t::ts).length:=by
    split at hn
    ·cases hn;simp
    ·cases hn
   split at h
   ·cases h
   ·rename_i u r1 he
    have h1:r1.length<r0.length:=by
     cases r0 with
     | nil=>cases he
     | cons t0 r0=>
      rw [eatP] at he
      split at he
      ·cases he;simp
      ·cases he
    split at h
    ·cases h
    ·rename_i x r2 hx
     have h2:=zdz e 32 _ _ _ hx
     cases h
     omega
theorem zgg (e:Nat):∀k k' ts,ts.length<k→ts.length<k'→bo e k ts=bo e k' ts
 | 0,k',ts,h,h'=>by omega
 | k+1,0,ts,h,h'=>by omega
 | k+1,k'+1,ts,h,h'=>by
  rw [bo,bo]
  cases hg:znc e ts with
  | bad c a=>rfl
  | ok g r=>
   have:=zhn hg
   cases r with
   | nil=>rfl
   | cons t r=>
    simp only [ypb] at this
    simp only
    rw [zgg e k k' r (by omega) (by omega)]
theorem zxk {P:RP} {k k':Nat} {g:Gv} (h:znc P.en (P.L.drop k)=.ok g (P.L.drop k')):bo P.en (P.L.length+1) (P.L.drop k)=if keyT (zd P k')==wAnd then (match bo P.en (P.L.length+1) (P.L.drop (k'+1)) with
  | .bad c a=>.bad c a
  | .ok gs r2=>.ok (g::gs) r2) else .ok [g] (P.L.drop k'):=by
 have hs:=zhn h
 simp only [ypf] at hs
 rw [bo,h]
 by_cases hk:k'<P.L.length
 ·rw [jx hk]
  simp only
  rw [zgg P.en P.L.length (P.L.length+1) (P.L.drop (k'+1)) (by simp;omega) (by simp;omega)]
  skip
 ·rw [yo5 (by omega),xx hk,zbb];rfl
theorem zt8 {e:Nat} {ts:List Tok} {c a n:Nat} (h:znc e ts=.bad c a):bo e (n+1) ts=.bad c a:=by rw [bo,h]
theorem zx1 (P:RP) (k:Nat):zpo P.en (P.L.drop k)=if bw (zd P k) then .ok ((zd P k).text,(zd P k).at_) (P.L.drop (k+1)) else .bad (k9 P k) (gt P k):=by
 unfold k9 gt
 by_cases hk:k<P.L.length
 ·rw [jx hk,zpo,if_pos hk,if_pos hk]
 ·rw [yo5 (by omega),xx hk,if_neg hk,if_neg hk];rfl
theorem ymd (P:RP) (k:Nat) {m:Bys} (hm:m≠[]):eatP P.en m (P.L.drop k)=if keyT (zd P k)==m then .ok () (P.L.drop (k+1)) else .bad (k9 P k) (gt P k):=by
 unfold k9 gt
 by_cases hk:k<P.L.length
 ·rw [jx hk,eatP,if_pos hk,if_pos hk]
 ·rw [yo5 (by omega),xx hk,if_neg hk,if_neg hk,zbb,if_neg (by simpa using hm)];rfl
def wv (g:Gv) (v:Value):List Value:=[str g.name,.int .i64 (g.at_:Int),v]
def GsP (h:Heap):(Nat→Prop)→List Value→List Gv→Prop
 | _,[],[]=>True
 | S,v::vs,g::gs=>∃S1 S2,TreeP h S1 v g.e∧GsP h S2 vs gs∧(∀z,S1 z→S z∧¬S2 z)∧∀z,S2 z→S z
 | _,_,_=>False
theorem GsP.keep {h h':Heap}:∀{S:Nat→Prop} {vs:List Value} {gs:List Gv},GsP h S vs gs→(∀b o,S b→h[b]?=some o→h'[b]?=some o)→GsP h' S vs gs
 | S,[],[],e,k=>trivial
 | S,v::vs,g::gs,e,k=>by
  obtain ⟨S1,S2,t,r,h1,h2⟩:=e
  exact ⟨S1,S2,t.keep fun b o hb=>k b o (h1 b hb).1,r.keep fun b o hb=>k b o (h2 b hb),h1,h2⟩
 | S,[],_::_,e,k=>e.elim
 | S,_::_,[],e,k=>e.elim
theorem GsP.len {h:Heap}:∀{S:Nat→Prop} {vs:List Value} {gs:List Gv},GsP h S vs gs→vs.length=gs.length
 | S,[],[],e=>rfl
 | S,v::vs,g::gs,e=>by obtain ⟨S1,S2,t,r,h1,h2⟩:=e;simp [r.len]
 | S,[],_::_,e=>e.elim
 | S,_::_,[],e=>e.elim
theorem GsP.snoc {h:Heap} {T:Nat→Prop} {v:Value} {g:Gv} (t:TreeP h T v g.e):∀{S:Nat→Prop} {vs:List Value} {gs:List Gv},GsP h S vs gs→(∀z,S z→¬T z)→GsP h (fun z=>S z∨T z) (vs++[v]) (gs++[g])
 | S,[],[],e,hd=>⟨T,fun _=>False,t,trivial,fun z hz=>⟨.inr hz,id⟩,fun z hz=>hz.elim⟩
 | S,w::vs,f::gs,e,hd=>by
  obtain ⟨S1,S2,t1,r,h1,h2⟩:=e
  exact ⟨S1,fun z=>S2 z∨T z,t1,r.snoc t fun z hz=>hd z (h2 z hz),fun z hz=>⟨.inl (h1 z hz).1,fun h=>h.elim (h1 z hz).2 (hd z (h1 z hz).1)⟩,fun z hz=>hz.imp (h2 z) id⟩
 | S,[],_::_,e,hd=>e.elim
 | S,_::_,[],e,hd=>e.elim
def ckS:Ck→Bys
 | .acyclic=>bd
 | .irr=>wIrr
 | .empty=>zcx
def kwOf (rc:Bool):Bys:=if rc then wRec else wLet
def StP (h:Heap) (T:Nat→Prop) (row:List Value):Stm→Prop
 | .lets rc gs=>∃s vs S,row=[str (kwOf rc),s,nilP,str []]∧Sl h s 3 (List.zipWith wv gs vs)∧GsP h S vs gs∧(∀z,S z→T z∧blk s≠some z)∧∀b,blk s=some b→T b
 | .chk k x as_=>∃v,row=[str (ckS k),nils,v,str as_]∧TreeP h T v x
theorem StP.keep {h h':Heap} {T:Nat→Prop} {row:List Value} {s:Stm} (e:StP h T row s) (k:∀b o,T b→h[b]?=some o→h'[b]?=some o):StP h' T row s:=by
 cases s with
 | lets rc gs=>
  obtain ⟨s,vs,S,hr,hs,hg,h1,h2⟩:=e
  exact ⟨s,vs,S,hr,hs.keep fun b hb o ho=>k b o (h2 b hb) ho,hg.keep fun b o hb=>k b o (h1 b hb).1,h1,h2⟩
 | chk c x as_=>
  obtain ⟨v,hr,ht⟩:=e
  exact ⟨v,hr,ht.keep k⟩
theorem StP.len {h:Heap} {T:Nat→Prop} {row:List Value} {s:Stm} (e:StP h T row s):row.length=4:=by
 cases s with
 | lets rc gs=>obtain ⟨s,vs,S,hr,_⟩:=e;rw [hr];rfl
 | chk c x as_=>obtain ⟨v,hr,ht⟩:=e;rw [hr];rfl
def StsP (h:Heap):(Nat→Prop)→List (List Value)→List Stm→Prop
 | _,[],[]=>True
 | T,row::rows,s::l=>∃T1 T2,StP h T1 row s∧StsP h T2 rows l∧(∀z,T1 z→T z∧¬T2 z)∧∀z,T2 z→T z
 | _,_,_=>False
theorem StsP.keep {h h':Heap}:∀{T:Nat→Prop} {rows:List (List Value)} {l:List Stm},StsP h T rows l→(∀b o,T b→h[b]?=some o→h'[b]?=some o)→StsP h' T rows l
 | T,[],[],e,k=>trivial
 | T,v::vs,g::gs,e,k=>by
  obtain ⟨S1,S2,t,r,h1,h2⟩:=e
  exact ⟨S1,S2,t.keep fun b o hb=>k b o (h1 b hb).1,r.keep fun b o hb=>k b o (h2 b hb),h1,h2⟩
 | T,[],_::_,e,k=>e.elim
 | T,_::_,[],e,k=>e.elim
theorem StsP.len {h:Heap}:∀{T:Nat→Prop} {rows:List (List Value)} {l:List Stm},StsP h T rows l→rows.length=l.length∧∀r∈rows,r.length=4
 | T,[],[],e=>⟨rfl,by simp⟩
 | T,v::vs,g::gs,e=>by
  obtain ⟨S1,S2,t,r,h1,h2⟩:=e
  refine ⟨by simp [r.len.1],fun x hx=> ?_⟩
  rcases ypx.1 hx with rfl | hx
  ·exact t.len
  ·exact r.len.2 x hx
 | T,[],_::_,e=>e.elim
 | T,_::_,[],e=>e.elim
theorem StsP.snoc {h:Heap} {U:Nat→Prop} {row:List Value} {s:Stm} (t:StP h U row s):∀{T:Nat→Prop} {rows:List (List Value)} {l:List Stm},StsP h T rows l→(∀z,T z→¬U z)→StsP h (fun z=>T z∨U z) (rows++[row]) (l++[s])
 | T,[],[],e,hd=>⟨U,fun _=>False,t,trivial,fun z hz=>⟨.inr hz,id⟩,fun z hz=>hz.elim⟩
 | T,w::vs,f::gs,e,hd=>by
  obtain ⟨S1,S2,t1,r,h1,h2⟩:=e
  exact ⟨S1,fun z=>S2 z∨U z,t1,r.snoc t fun z hz=>hd z (h2 z hz),fun z hz=>⟨.inl (h1 z hz).1,fun h=>h.elim (h1 z hz).2 (hd z (h1 z hz).1)⟩,fun z hz=>hz.imp (h2 z) id⟩
 | T,[],_::_,e,hd=>e.elim
 | T,_::_,[],e,hd=>e.elim
theorem GsP.get {h:Heap}:∀{S:Nat→Prop} {vs:List Value} {gs:List Gv},GsP h S vs gs→∀(k:Nat) (g:Gv),gs[k]?=some g→∃v S',vs[k]?=some v∧TreeP h S' v g.e∧∀z,S' z→S z
 | S,[],[],e,k,g,hk=>by simp at hk
 | S,v::vs,g'::gs,e,0,g,hk=>by
  obtain ⟨S1,S2,t,r,h1,h2⟩:=e
  cases hk
  exact ⟨v,S1,rfl,t,fun z hz=>(h1 z hz).1⟩
 | S,v::vs,g'::gs,e,k+1,g,hk=>by
  obtain ⟨S1,S2,t,r,h1,h2⟩:=e
  obtain ⟨w,S',a,b,c⟩:=r.get k g (by simpa using hk)
  exact ⟨w,S',by simpa using a,b,fun z hz=>h2 z (c z hz)⟩
 | S,[],_::_,e,k,g,hk=>e.elim
 | S,_::_,[],e,k,g,hk=>e.elim
def z4:List Value:=[str [],.slice none 0 0,nilP,str []]
theorem zgk (z0 z1 z2 a b c:Value):yp [z0,z1,z2] [(0,3,agg [a,b,c])]=some [a,b,c]:=by
 rw [yp,zg];simp [splice,yp]
theorem Own.slice {h H:Heap} {s:Value} {c:Nat} {rows:List (List Value)} (e:Own h H s c rows):∃a n c',s=.slice a n c':=by
 rcases e with ⟨⟨rfl,_⟩ | ⟨b,ver,_,rfl,_⟩,_⟩
 ·exact ⟨_,_,_,rfl⟩
 ·exact ⟨_,_,_,rfl⟩
theorem yg7 {P:RP} {h K3:Heap} {i k d x a g:Nat} {rows:List (List Value)} {s x0:Value} {w:Bys} {p:Int} {kw:Bys} (v:Value) (e:Rd P h i 0 0 0) (eK:Rd P K3 k d x a) (hg:K3[g]?=some (.cells [str w,.int .i64 p,x0] 0 false)) (hgl:h.length+2≤g) (hgs:blk s≠some g) (h0:K3[h.length]?=some (.cells z4 0 false))
  (h1:K3[h.length+1]?=some (.cells [str kw,s,nilP,str []] 0 false)) (own:Own [] K3 s 3 rows) (hb:∀b,blk s=some b→h.length+2≤b) (room:rows.length≤10000) (mK:Mv P h K3):
  ∃a' n' c' K4,wu (K3.set g (.cells [str w,.int .i64 p,v] 0 false)++[.cells [str w,.int .i64 p,v] 0 false]) 3 32 s (za5 (K3.set g (.cells [str w,.int .i64 p,v] 0 false)++[.cells [str w,.int .i64 p,v] 0 false]) 3 (.slice (some ⟨K3.length,0,some 0⟩) 1 3))=some (.slice a' n' c',K4)∧
   K4[h.length+1]?=some (.cells [str kw,s,nilP,str []] 0 false)∧
   Rd P (K4.set (h.length+1) (.cells [str kw,.slice a' n' c',nilP,str []] 0 false)) k d x a∧(K4.set (h.length+1) (.cells [str kw,.slice a' n' c',nilP,str []] 0 false))[h.length]?=some (.cells z4 0 false)∧
   (K4.set (h.length+1) (.cells [str kw,.slice a' n' c',nilP,str []] 0 false))[h.length+1]?=some (.cells [str kw,.slice a' n' c',nilP,str []] 0 false)∧
   Own [] (K4.set (h.length+1) (.cells [str kw,.slice a' n' c',nilP,str []] 0 false)) (.slice a' n' c') 3 (rows++[[str w,.int .i64 p,v]])∧(∀b,blk (.slice a' n' c')=some b→h.length+2≤b)∧
   (∀z,z<K3.length→blk s≠some z→blk (.slice a' n' c')≠some z)∧Mv P h (K4.set (h.length+1) (.cells [str kw,.slice a' n' c',nilP,str []] 0 false))∧
   (∀b o,K3[b]?=some o→b≠g→b≠h.length+1→blk s≠some b→(K4.set (h.length+1) (.cells [str kw,.slice a' n' c',nilP,str []] 0 false))[b]?=some o)∧K3.length≤(K4.set (h.length+1) (.cells [str kw,.slice a' n' c',nilP,str []] 0 false)).length:=by
 have lr:=e.lr;have lc:=e.lc
 have own2:Own [] (K3.set g (.cells [str w,.int .i64 p,v] 0 false)) s 3 rows:=own.keep fun b hb' o ho=>by rw [you (by rintro rfl;exact hgs hb')];exact ho
 obtain ⟨s',K4,q1,q2,q3,q4,q5,q6⟩:=own2.push (⟨_,rfl⟩:Pre [] _) (row:=[str w,.int .i64 p,v]) (bytes:=32) rfl (by unfold wy;omega)
 rw [yo3] at q1 q4 q6
 have hbn:∀b,b<h.length+2→blk s≠some b:=fun b hlt hbb=>by have:=hb b hbb;omega
 have old:∀b o,K3[b]?=some o→b≠g→blk s≠some b→K4[b]?=some o:=fun b o ho n1 n2=>q5 b o (by rw [you (yps n1)];exact ho) n2
 obtain ⟨a',n',c',rfl⟩:=q2.slice
 have f1:K4[h.length+1]?=some (.cells [str kw,s,nilP,str []] 0 false):=old _ _ h1 (by omega) (hbn _ (by omega))
 have hlt:h.length+1<K4.length:=(yoq.1 f1).1
 have blk':∀b,blk (.slice a' n' c')=some b→h.length+2≤b:=fun b hb'=>by
  rcases q6 with q6 | ⟨j,q6,q7⟩
  ·rw [q6] at hb';exact hb b hb'
  ·rw [q6] at hb';cases hb'
   have:=(yoq.1 hg).1;omega
 have keep:∀b o,K3[b]?=some o→b≠g→b≠h.length+1→blk s≠some b→(K4.set (h.length+1) (.cells [str kw,.slice a' n' c',nilP,str []] 0 false))[b]?=some o:=fun b o ho n1 n2 n3=>by
  rw [you (yps n2)];exact old b o ho n1 n3
 have m2:Mv P K3 K4→True:=fun _=>trivial
 have mE:Mv P h (K4.set (h.length+1) (.cells [str kw,.slice a' n' c',nilP,str []] 0 false)):=⟨fun b o ho n1 n2=>by
  have hl:=(yoq.1 ho).1
  exact keep b o (mK.keep b o ho n1 n2) (by omega) (by omega) (hbn b (by omega)),by rw [yo3];have:=mK.le;omega⟩
 refine ⟨a',n',c',K4,q1,f1,?_,?_,?_,?_,blk',?_,mE,keep,by rw [yo3];omega⟩
 ·exact ⟨keep _ _ eK.hr (by omega) (by omega) (hbn _ (by omega)),keep _ _ eK.hc (by omega) (by omega) (hbn _ (by omega)),
   eK.sw.keep fun b hb' o ho=>by have:=e.sw.lt hb';exact keep b o ho (by omega) (by omega) (hbn b (by omega)),eK.sc.keep fun b hb' o ho=>by have:=e.sc.lt hb';exact keep b o ho (by omega) (by omega) (hbn b (by omega)),eK.le⟩
 ·exact keep _ _ h0 (by omega) (by omega) (hbn _ (by omega))
 ·rw [yox hlt]
 ·exact q2.keep fun b hb' o ho=>by rw [you (by have:=blk' b hb';omega)];exact ho
 ·intro z hz hzs hb'
  rcases q6 with q6 | ⟨j,q6,q7⟩
  ·rw [q6] at hb';exact hzs hb'
  ·rw [q6] at hb';cases hb';omega
def StR (P:RP) (h:Heap) (v:Value) (h':Heap):PR Stm→Prop
 | .ok s r=>∃row k,v=agg row∧r=P.L.drop k∧Rd P h' k 0 0 0∧StP h' (Iv h.length h'.length) row s∧Mv P h h'
 | .bad c p=>∃row,v=agg row∧row.length=4∧c≠0∧(∃k,Rd P h' k 0 c p)∧Mv P h h'
def LetS (P:RP) (h:Heap) (R:PR Stm) (rc:Bool) (m:Nat) (K:Heap) (k:Nat):Prop:=
 ∃s vs S acc,m=P.L.length - k+1∧Rd P K k 0 0 0∧K[h.length]?=some (.cells z4 0 false)∧K[h.length+1]?=some (.cells [str (kwOf rc),s,nilP,str []] 0 false)∧Own [] K s 3 (List.zipWith wv acc vs)∧GsP K S vs acc∧
  (∀z,S z→h.length+2≤z∧z<K.length∧blk s≠some z)∧(∀b,blk s=some b→h.length+2≤b)∧Mv P h K∧acc.length≤k∧
  (match bo P.en (P.L.length+1) (P.L.drop k) with | .bad c a=>R=.bad c a | .ok gs r=>R=.ok (.lets rc (acc++gs)) r)
def LetI (P:RP) (h:Heap) (R:PR Stm) (rc:Bool) (i:Nat) (m:Nat) (st:St):Prop:=∃K k,i<k∧(∃j:Nat→Value,st=⟨[pt P.r,j 1,pt h.length,pt (h.length+1),j 4,j 5,j 6,j 7,j 8,j 9,j 10,j 11,j 12,j 13,j 14,j 15,j 16,j 17,j 18,j 19,j 20,j 21,j 22,j 23,j 24,j 25,j 26,j 27,j 28,j 29,j 30,j 31,j 32,j 33,j 34,j 35,j 36,j 37,j 38,j 39,j 40,j 41,j 42,j 43,j 44,j 45,j 46,j 47,j 48,j 49,j 50,j 51,j 52,j 53,j 54,j 55,j 56,j 57,j 58,j 59,j 60,j 61,j 62,j 63,j 64,j 65,j 66,j 67,j 68,j 69,j 70,j 71,j 72,j 73,j 74,j 75,j 76,j 77,j 78,j 79,j 80,j 81,j 82,j 83,j 84,j 85,j 86,j 87,j 88,j 89,j 90,j 91,j 92,j 93,j 94,j 95,j 96,j 97],K⟩)∧LetS P h R rc m K k
theorem zgy {vs:List Value} {gs:List Gv} (h:vs.length=gs.length):(List.zipWith wv gs vs).length=gs.length:=by simp [h]
theorem ygp {vs:List Value} {gs:List Gv} (h:vs.length=gs.length) (g:Gv) (v:Value):List.zipWith wv (gs++[g]) (vs++[v])=List.zipWith wv gs vs++[wv g v]:=by
 rw [List.zipWith_append h.symm];rfl
theorem ycg (P:RP) (k:Nat):znc P.en (P.L.drop k)=if bw (zd P k) then (if keyT (zd P (k+1))==[61] then (match zhj P.en 32 (P.L.drop (k+1+1)) with
   | .bad c a=>.bad c a
   | .ok x r2=>.ok ⟨(zd P k).text,(zd P k).at_,x⟩ r2) else .bad (k9 P (k+1)) (gt P (k+1))) else .bad (k9 P k) (gt P k):=by
 unfold znc
 rw [zx1]
 cases bw (zd P k)
 ·rfl
 ·simp only [if_true]
  rw [ymd P (k+1) (m:=[61]) (by simp)]
  cases (keyT (zd P (k+1))==[61])
  ·rfl
  ·simp only [if_true];skip
/-- A round, in memory: a name that is given, read rightly or not, is laid behind the others. -/
theorem zs9 {P:RP} {h K:Heap} {i k:Nat} {rc:Bool} {R:PR Stm} (e:Rd P h i 0 0 0) {s:Value} {vs:List Value} {S:Nat→Prop} {acc:List Gv} (eK:Rd P K k 0 0 0) (hz0:K[h.length]?=some (.cells z4 0 false)) (hz1:K[h.length+1]?=some (.cells [str (kwOf rc),s,nilP,str []] 0 false)) (own:Own [] K s 3 (List.zipWith wv acc vs)) (gs:GsP K S vs acc)
  (hS:∀z,S z→h.length+2≤z∧z<K.length∧blk s≠some z) (hb:∀b,blk s=some b→h.length+2≤b) (mK:Mv P h K) (hacc:acc.length≤k)
  (hg:(match bo P.en (P.L.length+1) (P.L.drop k) with | .bad c a=>R=.bad c a | .ok gs r=>R=.ok (.lets rc (acc++gs)) r)):
  ∃w p K1 K2 K3 b a' n' c' K4 k3 x a,DF FF q9 [pt P.r] (K++[.cells [str [],.int .i64 0,nilP] 0 false])=some (tup [str w,.int .i64 p],K1)∧K1[K.length]?=some (.cells [str [],.int .i64 0,nilP] 0 false)∧
   DF FF wj [pt P.r,str [61]] (K1.set K.length (.cells [str w,.int .i64 p,nilP] 0 false))=some (tup [],K2)∧DF FF yu [pt P.r] K2=some (pt b,K3)∧K3[K.length]?=some (.cells [str w,.int .i64 p,nilP] 0 false)∧
   K3[h.length+1]?=some (.cells [str (kwOf rc),s,nilP,str []] 0 false)∧
   wu (K3.set K.length (.cells [str w,.int .i64 p,pt b] 0 false)++[.cells [str w,.int .i64 p,pt b] 0 false]) 3 32 s (za5 (K3.set K.length (.cells [str w,.int .i64 p,pt b] 0 false)++[.cells [str w,.int .i64 p,pt b] 0 false]) 3 (.slice (some ⟨K3.length,0,some 0⟩) 1 3))=some (.slice a' n' c',K4)∧
   K4[h.length+1]?=some (.cells [str (kwOf rc),s,nilP,str []] 0 false)∧
   Rd P (K4.set (h.length+1) (.cells [str (kwOf rc),.slice a' n' c',nilP,str []] 0 false)) k3 0 x a∧Mv P h (K4.set (h.length+1) (.cells [str (kwOf rc),.slice a' n' c',nilP,str []] 0 false))∧
   (K4.set (h.length+1) (.cells [str (kwOf rc),.slice a' n' c',nilP,str []] 0 false))[h.length]?=some (.cells z4 0 false)∧
   (K4.set (h.length+1) (.cells [str (kwOf rc),.slice a' n' c',nilP,str []] 0 false))[h.length+1]?=some (.cells [str (kwOf rc),.slice a' n' c',nilP,str []] 0 false)∧
   ((x≠0∧R=.bad x a)∨(x=0∧a=0∧k<k3∧∃S' g,Own [] (K4.set (h.length+1) (.cells [str (kwOf rc),.slice a' n' c',nilP,str []] 0 false)) (.slice a' n' c') 3 (List.zipWith wv (acc++[g]) (vs++[pt b]))∧
    GsP (K4.set (h.length+1) (.cells [str (kwOf rc),.slice a' n' c',nilP,str []] 0 false)) S' (vs++[pt b]) (acc++[g])∧(∀z,S' z→h.length+2≤z∧z<(K4.set (h.length+1) (.cells [str (kwOf rc),.slice a' n' c',nilP,str []] 0 false)).length∧blk (.slice a' n' c')≠some z)∧(∀b,blk (.slice a' n' c')=some b→h.length+2≤b)∧
    (if keyT (zd P k3)==wAnd then (match bo P.en (P.L.length+1) (P.L.drop (k3+1)) with | .bad c a=>R=.bad c a | .ok gs r=>R=.ok (.lets rc ((acc++[g])++gs)) r) else R=.ok (.lets rc (acc++[g])) (P.L.drop k3)))):=by
 have lr:=e.lr;have lc:=e.lc;have hL:=P.len;have lK:=mK.le
 have lz:=(yoq.1 hz1).1
 obtain ⟨w,p,K1,q1,x1,m1⟩:=yd5 (eK.more [.cells [str [],.int .i64 0,nilP] 0 false])
 have o1:K1[K.length]?=some (.cells [str [],.int .i64 0,nilP] 0 false):=m1.keep _ _ (by simp) (by omega) (by omega)
 have l1:=(yoq.1 o1).1
 have mK1:Mv P K K1:=(Mv.add P K _).trans m1
 have mE1:Mv P K (K1.set K.length (.cells [str w,.int .i64 p,nilP] 0 false)):=mK1.upd (yoz _) _
 have oE1:(K1.set K.length (.cells [str w,.int .i64 p,nilP] 0 false))[K.length]?=some (.cells [str w,.int .i64 p,nilP] 0 false):=by rw [yox l1]
 have hgs:blk s≠some K.length:=fun hh=>by have:=(own.lt hh).2;omega
 have rl:(List.zipWith wv acc vs).length≤10000:=by rw [zgy gs.len];have:=eK.le;omega
 have all:∀(K3:Heap) (b k3 x a:Nat),Rd P K3 k3 0 x a→Mv P (K1.set K.length (.cells [str w,.int .i64 p,nilP] 0 false)) K3→_:=fun K3 b k3 x a e3 m3=>
  yg7 (kw:=kwOf rc) (s:=s) (rows:=List.zipWith wv acc vs) (pt b) e e3 (m3.keep _ _ oE1 (by omega) (by omega)) (by omega) hgs ((mE1.trans m3).keep _ _ hz0 (by omega) (by omega)) ((mE1.trans m3).keep _ _ hz1 (by omega) (by omega)) (own.keep fun c hc o ho=>(mE1.trans m3).keep c o ho (by have:=hb c hc;omega) (by have:=hb c hc;omega)) hb rl (mK.trans (mE1.trans m3))
 have o3:∀K3,Mv P (K1.set K.length (.cells [str w,.int .i64 p,nilP] 0 false)) K3→K3[K.length]?=some (.cells [str w,.int .i64 p,nilP] 0 false)∧K3[h.length+1]?=some (.cells [str (kwOf rc),s,nilP,str []] 0 false):=fun K3 m3=>⟨m3.keep _ _ oE1 (by omega) (by omega),(mE1.trans m3).keep _ _ hz1 (by omega) (by omega)⟩
 have hgv:=ycg P k
 have bad:∀c a,znc P.en (P.L.drop k)=.bad c a→R=.bad c a:=fun c a hq=>by rw [zt8 hq] at hg;exact hg
 cases hn:bw (zd P k)
 ·rw [hn,if_neg yo1] at x1 hgv
  have eE1:Rd P (K1.set K.length (.cells [str w,.int .i64 p,nilP] 0 false)) k 0 (k9 P k) (gt P k):=eK.upd x1 (yoz _) _
  obtain ⟨b,K3,q3,e3,m3⟩:=zkj _ _ _ _ _ eE1 (wq P k)
  obtain ⟨a',n',c',K4,r1,r2,r3,r4,r5,r6,r7,r8,r9,r10,r11⟩:=all K3 b k _ _ e3 m3
  exact ⟨w,p,K1,_,K3,b,a',n',c',K4,k,_,_,q1,o1,zur eE1 (wq P k) [61],q3,(o3 K3 m3).1,(o3 K3 m3).2,r1,r2,r3,r9,r4,r5,.inl ⟨wq P k,bad _ _ hgv⟩⟩
 ·rw [hn,if_pos rfl] at x1 hgv
  obtain ⟨rfl,rfl,x1⟩:=x1
  have eE1:=eK.upd x1 (yoz _) (.cells [str (zd P k).text,.int .i64 ((zd P k).at_:Int),nilP] 0 false)
  obtain ⟨K2,q2,x2,m2⟩:=zw5 eE1 (m:=[61]) (by simp)
  cases k61:(keyT (zd P (k+1))==[61])
  ·rw [k61,if_neg yo1] at x2 hgv
   obtain ⟨b,K3,q3,e3,m3⟩:=zkj _ _ _ _ _ x2 (wq P (k+1))
   obtain ⟨a',n',c',K4,r1,r2,r3,r4,r5,r6,r7,r8,r9,r10,r11⟩:=all K3 b _ _ _ e3 (m2.trans m3)
   exact ⟨_,_,K1,K2,K3,b,a',n',c',K4,_,_,_,q1,o1,q2,q3,(o3 K3 (m2.trans m3)).1,(o3 K3 (m2.trans m3)).2,r1,r2,r3,r9,r4,r5,.inl ⟨wq P (k+1),bad _ _ hgv⟩⟩
  ·rw [k61,if_pos rfl] at x2 hgv
   obtain ⟨v,K3,q3,x3⟩:=ye2 P 32 0 rfl K2 (k+1+1) x2
   obtain ⟨b,rfl⟩:=x3.ptr
   cases hx:zhj P.en 32 (P.L.drop (k+1+1)) with
   | bad c a=>
    rw [hx] at x3 hgv
    obtain ⟨hc,⟨k3,e3⟩,m3,_⟩:=x3
    obtain ⟨a',n',c',K4,r1,r2,r3,r4,r5,r6,r7,r8,r9,r10,r11⟩:=all K3 b _ _ _ e3 (m2.trans m3)
    exact ⟨_,_,K1,K2,K3,b,a',n',c',K4,_,_,_,q1,o1,q2,q3,(o3 K3 (m2.trans m3)).1,(o3 K3 (m2.trans m3)).2,r1,r2,r3,r9,r4,r5,.inl ⟨hc,bad _ _ hgv⟩⟩
   | ok y r=>
    rw [hx] at x3 hgv
    obtain ⟨k3,rfl,e3,t3,m3⟩:=x3
    have m13:=m2.trans m3
    have mK3:=mE1.trans m13
    obtain ⟨a',n',c',K4,r1,r2,r3,r4,r5,r6,r7,r8,r9,r10,r11⟩:=all K3 b _ _ _ e3 m13
    have hsz:=zhn hgv
    simp only [ypf] at hsz
    have l12:=m2.le
    rw [yo3] at l12
    have l3:=m3.le
    refine ⟨_,_,K1,K2,K3,b,a',n',c',K4,k3,0,0,q1,o1,q2,q3,(o3 K3 m13).1,(o3 K3 m13).2,r1,r2,r3,r9,r4,r5,.inr ⟨rfl,rfl,by omega,fun z=>S z∨Iv K2.length K3.length z,⟨(zd P k).text,(zd P k).at_,y⟩,?_,?_,?_,r7,?_⟩⟩
    ·rw [ygp gs.len];exact r6
    ·refine GsP.snoc (t3.keep fun c o hc ho=>r10 c o ho (by have:=hc.1;omega) (by have:=hc.1;omega) fun hh=>by have:=(own.lt hh).2;have:=hc.1;omega) (gs.keep fun c o hc ho=>r10 c o (mK3.keep c o ho (by have:=(hS c hc).1;omega) (by have:=(hS c hc).1;omega)) (by have:=(hS c hc).2.1;omega) (by have:=(hS c hc).1;omega) (hS c hc).2.2) fun z hz hT=>by have:=(hS z hz).2.1;have:=hT.1;omega
    ·intro z hz
     rcases hz with hz | hz
     ·obtain ⟨s1,s2,s3⟩:=hS z hz
      exact ⟨s1,by omega,r8 z (by omega) s3⟩
     ·have:=hz.1;have:=hz.2
      exact ⟨by omega,by omega,r8 z (by omega) fun hh=>by have:=(own.lt hh).2;omega⟩
    ·rw [zxk hgv] at hg
     cases kw:(keyT (zd P k3)==wAnd)
     ·rw [kw,if_neg yo1] at hg
      rw [if_neg yo1];exact hg
     ·rw [kw,if_pos rfl] at hg
      rw [if_pos rfl]
      cases hq:bo P.en (P.L.length+1) (P.L.drop (k3+1)) with
      | bad c a=>rw [hq] at hg;exact hg
      | ok gs2 r=>rw [hq] at hg;simp only at hg ⊢;rw [hg];simp
theorem ztk {P:RP} {h:Heap} {R:PR Stm} (rc:Bool) (K:Heap) (k:Nat) (eK:Rd P K k 0 0 0) (mK:Mv P h K) (h0:K[h.length]?=some (.cells z4 0 false)) (h1:K[h.length+1]?=some (.cells [str (kwOf rc),.slice none 0 0,nilP,str []] 0 false)) (hRk:R=zi8 P.en rc (P.L.drop k)):LetS P h R rc (P.L.length - k+1) K k:=by
 refine ⟨.slice none 0 0,[],fun _=>False,[],rfl,eK,h0,h1,Own.nil _ _ _,trivial,fun z hz=>hz.elim,by intro b hb;simp [blk] at hb,mK,Nat.zero_le _,?_⟩
 unfold zi8 at hRk
 rw [zgg P.en _ (P.L.length+1) (P.L.drop k) (Nat.lt_succ_self _) (by simp;omega)] at hRk
 rw [hRk]
 cases bo P.en (P.L.length+1) (P.L.drop k)<;> rfl
theorem zxq {P:RP} {k k':Nat} {c:Ck} {x:Ex} (h:zhj P.en 32 (P.L.drop k)=.ok x (P.L.drop k')):zc7 P.en c (P.L.drop k)=if keyT (zd P k')==wAs then (if bw (zd P (k'+1)) then .ok (.chk c x (zd P (k'+1)).text) (P.L.drop (k'+1+1)) else .bad (k9 P (k'+1)) (gt P (k'+1))) else .ok (.chk c x []) (P.L.drop k'):=by
 unfold zc7
 rw [h]
 by_cases hk:k'<P.L.length
 ·rw [jx hk]
  simp only
  rw [zx1]
  split
  ·split <;>(rename_i hh;split at hh <;> first | (cases hh;done) | (rename_i hh2;cases hh;simp [hh2]) | skip)
   all_goals simp_all
  ·rfl
 ·rw [yo5 (by omega),xx hk,zbb];rfl
theorem Rd.finS {P:RP} {h H:Heap} {i k x a:Nat} (e:Rd P h i 0 0 0) (e':Rd P H k 0 x a) (m:Mv P h H) (v:Value) (hne:i≠k∨x≠0):AM.finish h v H=H:=e.fin e' m v (by rcases hne with h | h <;> simp [h];omega)
theorem yey {P:RP} {h E:Heap} {i k x a:Nat} {R:PR Stm} {rc:Bool} {a':Option Addr} {n' c':Nat} (e:Rd P h i 0 0 0) (e5:Rd P E k 0 x a) (m5:Mv P h E)
  (h1:E[h.length+1]?=some (.cells [str (kwOf rc),.slice a' n' c',nilP,str []] 0 false)) (hx:x≠0) (hR:R=.bad x a):StR P h (agg [str (kwOf rc),.slice a' n' c',nilP,str []]) (E.set h.length (.cells [str (kwOf rc),.slice a' n' c',nilP,str []] 0 false)) R:=by
 rw [hR]
 exact ⟨_,rfl,rfl,hx,⟨k,e.upd e5 (yoz _) _⟩,m5.upd (yoz _) _⟩
theorem zix {P : RP} {h E : Heap} {i k : Nat} {c : Ck} (e : Rd P h i 0 0 0) (eE : Rd P E k 0 0 0) (mE : Mv P h E) (h0 : E[h.length]? = some (.cells z4 0 false)) (h1 : E[h.length + 1]? = some (.cells [str (ckS c), .slice none 0 0, nilP, str []] 0 false)) (hik : i < k) :
    ∃ b K3 k3 x a, DF FF yu [pt P.r] E = some (pt b, K3) ∧ K3[h.length + 1]? = some (.cells [str (ckS c), .slice none 0 0, nilP, str []] 0 false) ∧
      Rd P (K3.set (h.length + 1) (.cells [str (ckS c), .slice none 0 0, pt b, str []] 0 false)) k3 0 x a ∧ (K3.set (h.length + 1) (.cells [str (ckS c), .slice none 0 0, pt b, str []] 0 false))[h.length]? = some (.cells z4 0 false) ∧
      (K3.set (h.length + 1) (.cells [str (ckS c), .slice none 0 0, pt b, str []] 0 false))[h.length + 1]? = some (.cells [str (ckS c), .slice none 0 0, pt b, str []] 0 false) ∧
      ((x ≠ 0 ∧ (∀ v, AM.finish h v ((K3.set (h.length + 1) (.cells [str (ckS c), .slice none 0 0, pt b, str []] 0 false)).set h.length (.cells [str (ckS c), .slice none 0 0, pt b, str []] 0 false)) = (K3.set (h.length + 1) (.cells [str (ckS c), .slice none 0 0, pt b, str []] 0 false)).set h.length (.cells [str (ckS c), .slice none 0 0, pt b, str []] 0 false)) ∧
        StR P h (agg [str (ckS c), .slice none 0 0, pt b, str []]) ((K3.set (h.length + 1) (.cells [str (ckS c), .slice none 0 0, pt b, str []] 0 false)).set h.length (.cells [str (ckS c), .slice none 0 0, pt b, str []] 0 false)) (zc7 P.en c (P.L.drop k))) ∨
       (x = 0 ∧ ∃ K5, DF FF xi [pt P.c, .slice (some ⟨K3.length, 0, some 0⟩) 1 1] (K3.set (h.length + 1) (.cells [str (ckS c), .slice none 0 0, pt b, str []] 0 false) ++ [.cells [str [97, 115]] 0 false]) = some (.bool (keyT (zd P k3) == wAs), K5) ∧
        K5[h.length]? = some (.cells z4 0 false) ∧ K5[h.length + 1]? = some (.cells [str (ckS c), .slice none 0 0, pt b, str []] 0 false) ∧
        (((keyT (zd P k3) == wAs) = false ∧ (∀ v, AM.finish h v (K5.set h.length (.cells [str (ckS c), .slice none 0 0, pt b, str []] 0 false)) = K5.set h.length (.cells [str (ckS c), .slice none 0 0, pt b, str []] 0 false)) ∧
          StR P h (agg [str (ckS c), .slice none 0 0, pt b, str []]) (K5.set h.length (.cells [str (ckS c), .slice none 0 0, pt b, str []] 0 false)) (zc7 P.en c (P.L.drop k))) ∨
         ((keyT (zd P k3) == wAs) = true ∧ ∃ w p K6, DF FF q9 [pt P.r] K5 = some (tup [str w, .int .i64 p], K6) ∧ K6[h.length + 1]? = some (.cells [str (ckS c), .slice none 0 0, pt b, str []] 0 false) ∧ K6[h.length]? = some (.cells z4 0 false) ∧
          (∀ v, AM.finish h v ((K6.set (h.length + 1) (.cells [str (ckS c), .slice none 0 0, pt b, str w] 0 false)).set h.length (.cells [str (ckS c), .slice none 0 0, pt b, str w] 0 false)) = (K6.set (h.length + 1) (.cells [str (ckS c), .slice none 0 0, pt b, str w] 0 false)).set h.length (.cells [str (ckS c), .slice none 0 0, pt b, str w] 0 false)) ∧
          StR P h (agg [str (ckS c), .slice none 0 0, pt b, str w]) ((K6.set (h.length + 1) (.cells [str (ckS c), .slice none 0 0, pt b, str w] 0 false)).set h.length (.cells [str (ckS c), .slice none 0 0, pt b, str w] 0 false)) (zc7 P.en c (P.L.drop k)))))) := by
  have lr := e.lr; have lc := e.lc; have lE := mE.le
  have lz := (yoq.1 h1).1
  obtain ⟨v, K3, q3, x3⟩ := ye2 P 32 0 rfl E k eE
  obtain ⟨b, rfl⟩ := x3.ptr
  have m3 : Mv P E K3 := by
    cases hx : zhj P.en 32 (P.L.drop k) with
    | ok y r => rw [hx] at x3; obtain ⟨_, _, _, _, m⟩ := x3; exact m
    | bad c a => rw [hx] at x3; exact x3.2.2.1
  have t1 := m3.keep _ _ h1 (by omega) (by omega)
  have t0 := m3.keep _ _ h0 (by omega) (by omega)
  have l3 := (yoq.1 t1).1
  have mF : Mv P h (K3.set (h.length + 1) (.cells [str (ckS c), .slice none 0 0, pt b, str []] 0 false)) := (mE.trans m3).upd (by omega) _
  have u0 : (K3.set (h.length + 1) (.cells [str (ckS c), .slice none 0 0, pt b, str []] 0 false))[h.length]? = some (.cells z4 0 false) := by rw [you (by omega)]; exact t0
  have u1 : (K3.set (h.length + 1) (.cells [str (ckS c), .slice none 0 0, pt b, str []] 0 false))[h.length + 1]? = some (.cells [str (ckS c), .slice none 0 0, pt b, str []] 0 false) := yox l3
  cases hx : zhj P.en 32 (P.L.drop k) with
  | bad ec ea =>
    rw [hx] at x3
    obtain ⟨hc, ⟨k3, e3⟩, _, _⟩ := x3
    have eF : Rd P (K3.set (h.length + 1) (.cells [str (ckS c), .slice none 0 0, pt b, str []] 0 false)) k3 0 ec ea := e.upd e3 (by omega) _
    have hR : zc7 P.en c (P.L.drop k) = .bad ec ea := by unfold zc7; rw [hx]
    refine ⟨b, K3, k3, ec, ea, q3, t1, eF, u0, u1, .inl ⟨hc, fun v => e.finS (e.upd eF (yoz _) _) (mF.upd (yoz _) _) v (.inr hc), ?_⟩⟩
    rw [hR]
    exact ⟨_, rfl, rfl, hc, ⟨k3, e.upd eF (yoz _) _⟩, mF.upd (yoz _) _⟩
  | ok y r =>
    rw [hx] at x3
    obtain ⟨k3, rfl, e3, tr, _⟩ := x3
    have hsz := zdz _ _ _ _ _ hx
    simp only [ypf] at hsz
    have eF : Rd P (K3.set (h.length + 1) (.cells [str (ckS c), .slice none 0 0, pt b, str []] 0 false)) k3 0 0 0 := e.upd e3 (by omega) _
    obtain ⟨K5, q5, e5, m5⟩ := zkl (eF.more [.cells [str wAs] 0 false]) (m := wAs) (by simp [wAs]) (zoc _ wAs)
    have m5' := (Mv.add P (K3.set (h.length + 1) (.cells [str (ckS c), .slice none 0 0, pt b, str []] 0 false)) [.cells [str wAs] 0 false]).trans m5
    have s0 := m5'.keep _ _ u0 (by omega) (by omega)
    have s1 := m5'.keep _ _ u1 (by omega) (by omega)
    have hR := zxq (c := c) hx
    have tr5 : ∀ G, Mv P K5 G → ∀ l l', TreeP ((G.set (h.length + 1) (.cells l 0 false)).set h.length (.cells l' 0 false)) (Iv h.length ((G.set (h.length + 1) (.cells l 0 false)).set h.length (.cells l' 0 false)).length) (pt b) y := fun G mG l l' =>
      (tr.keep fun z o hz ho => by
        have := hz.1
        rw [you (by omega), you (by omega)]
        exact mG.keep z o (m5'.keep z o (by rw [you (by omega)]; exact ho) (by omega) (by omega)) (by omega) (by omega)).weak fun z hz => ⟨by have := hz.1; omega, by have := hz.2; have h5 := m5'.le; have := mG.le; rw [yo3] at h5; rw [yo3, yo3]; omega⟩
    simp only [wAs, yo3] at q5
    refine ⟨b, K3, k3, 0, 0, q3, t1, eF, u0, u1, .inr ⟨rfl, K5, q5, s0, s1, ?_⟩⟩
    rw [hR]
    cases ka : (keyT (zd P k3) == wAs)
    · rw [ka, if_neg yo1] at e5
      rw [if_neg yo1]
      refine .inl ⟨rfl, fun v => e.finS (e.upd e5 (yoz _) _) ((mF.trans m5').upd (yoz _) _) v (.inl (by omega)), _, k3, rfl, rfl, e.upd e5 (yoz _) _, ⟨pt b, rfl, ?_⟩, (mF.trans m5').upd (yoz _) _⟩
      have := tr5 K5 (Mv.refl P K5) [str (ckS c), .slice none 0 0, pt b, str []] [str (ckS c), .slice none 0 0, pt b, str []]
      rwa [zxn s1] at this
    · rw [ka, if_pos rfl] at e5
      rw [if_pos rfl]
      obtain ⟨w, p, K6, q6, x6, m6⟩ := yd5 e5
      have s0' := m6.keep _ _ s0 (by omega) (by omega)
      have s1' := m6.keep _ _ s1 (by omega) (by omega)
      have mG := (((mF.trans m5').trans m6).upd (b := h.length + 1) (by omega) (.cells [str (ckS c), .slice none 0 0, pt b, str w] 0 false)).upd (yoz _) (.cells [str (ckS c), .slice none 0 0, pt b, str w] 0 false)
      cases hn : bw (zd P (k3 + 1))
      · rw [hn, if_neg yo1] at x6
        rw [if_neg yo1]
        have eG : Rd P ((K6.set (h.length + 1) (.cells [str (ckS c), .slice none 0 0, pt b, str w] 0 false)).set h.length (.cells [str (ckS c), .slice none 0 0, pt b, str w] 0 false)) _ 0 _ _ := e.upd (e.upd x6 (by omega) _) (yoz _) _
        exact .inr ⟨rfl, w, p, K6, q6, s1', s0', fun v => e.finS eG mG v (.inr (wq P _)), _, rfl, rfl, wq P _, ⟨_, eG⟩, mG⟩
      · rw [hn, if_pos rfl] at x6
        rw [if_pos rfl]
        obtain ⟨rfl, rfl, x6⟩ := x6
        have eG : Rd P ((K6.set (h.length + 1) (.cells [str (ckS c), .slice none 0 0, pt b, str (zd P (k3 + 1)).text] 0 false)).set h.length (.cells [str (ckS c), .slice none 0 0, pt b, str (zd P (k3 + 1)).text] 0 false)) _ 0 _ _ := e.upd (e.upd x6 (by omega) _) (yoz _) _
        exact .inr ⟨rfl, _, _, K6, q6, s1', s0', fun v => e.finS eG mG v (.inl (by omega)), _, _, rfl, rfl, eG, ⟨pt b, rfl, tr5 K6 m6 _ _⟩, mG⟩
set_option maxHeartbeats 8000000 in
theorem zug {P:RP} {h:Heap} {i:Nat} (e:Rd P h i 0 0 0) (hi:i<P.L.length):∃v h',DF FF gq [pt P.r] h=some (v,h')∧StR P h v h' (ze1 P.en (P.L.drop i)):=by
 refine yb zg6 ?_
 have lr:=e.lr;have lc:=e.lc;have hL:=P.len
 obtain ⟨R,hR⟩:∃R,R=ze1 P.en (P.L.drop i):=⟨_,rfl⟩
 rw [←hR]
 rw [jx hi,ze1] at hR
 have e0:=e.more [.cells z4 0 false,.cells z4 0 false]
 have m0:Mv P h (h++[.cells z4 0 false,.cells z4 0 false]):=Mv.add P h _
 obtain ⟨H0,hH0⟩:∃H0,H0=h++[AObj.cells z4 0 false,.cells z4 0 false]:=⟨_,rfl⟩
 have o1:H0[h.length]?=some (.cells z4 0 false):=by rw [hH0];simp
 have o2:H0[h.length+1]?=some (.cells z4 0 false):=by rw [hH0];simp
 have l2:H0.length=h.length+2:=by rw [hH0];simp
 rw [←hH0] at e0 m0
 have hz:H0=h++[AObj.cells [str [],.slice none 0 0,.pointer none,str []] 0 false,.cells [str [],.slice none 0 0,.pointer none,str []] 0 false]:=hH0
 obtain ⟨K1,q1,e1,m1⟩:=zkl (e0.more [.cells [str wLet] 0 false]) (m:=wLet) (by simp [wLet]) (zoc H0 wLet)
 have m1':Mv P H0 K1:=(Mv.add P H0 _).trans m1
 have p1:∀K,Mv P H0 K→K[h.length]?=some (.cells z4 0 false):=fun K m=>m.keep _ _ o1 (by omega) (by omega)
 have p2:∀K,Mv P H0 K→K[h.length+1]?=some (.cells z4 0 false):=fun K m=>m.keep _ _ o2 (by omega) (by omega)
 simp only [wLet] at q1
 cases kl:(keyT (zd P i)==wLet)
 ·rw [kl,if_neg yo1] at e1 hR
  rw [show (keyT (zd P i)==[108,101,116])=false from kl] at q1
  obtain ⟨K2,q2,e2,m2⟩:=zkl (e1.more [.cells [str bd] 0 false]) (m:=bd) (by simp [bd]) (zoc K1 bd)
  have m2':Mv P H0 K2:=(m1'.trans (Mv.add P K1 _)).trans m2
  simp only [bd] at q2
  cases kacyclic:(keyT (zd P i)==bd)
  rotate_left
  ·rw [kacyclic,if_pos rfl] at e2 hR
   rw [show (keyT (zd P i)==[97,99,121,99,108,105,99])=true from kacyclic] at q2
   have oK:=p2 K2 m2'
   have lzK:=(yoq.1 oK).1
   obtain ⟨E,hE⟩:∃E,E=K2.set (h.length+1) (.cells [str (ckS .acyclic),.slice none 0 0,nilP,str []] 0 false):=⟨_,rfl⟩
   have wE:Heap.write1 K2 ⟨h.length+1,0,some 0⟩ (str [97,99,121,99,108,105,99])=some E:=by rw [jo oK (by simp [z4]),hE];rfl
   have eE:Rd P E (i+1) 0 0 0:=by rw [hE];exact e.upd e2 (by omega) _
   have mE:Mv P h E:=by rw [hE];exact (m0.trans m2').upd (by omega) _
   have zE:E[h.length]?=some (.cells z4 0 false):=by rw [hE,you (by omega)];exact p1 K2 m2'
   have uE:E[h.length+1]?=some (.cells [str (ckS .acyclic),.slice none 0 0,nilP,str []] 0 false):=by rw [hE,yox lzK]
   obtain ⟨b,K3,k3,x,a,c1,c2,c3,c4,c5,c6⟩:=zix e eE mE zE uE (by omega)
   have wF:Heap.write1 K3 ⟨h.length+1,2,some 0⟩ (pt b)=some (K3.set (h.length+1) (.cells [str (ckS .acyclic),.slice none 0 0,pt b,str []] 0 false)):=by rw [jo c2 (by simp)];rfl
   rw [hR]
   rcases c6 with ⟨hx,f1,f2⟩ | ⟨rfl,K5,d1,d2,d3,⟨ka,f1,f2⟩ | ⟨ka,w,p,K6,g1,g2,g3,f1,f2⟩⟩
   ·have rd3:Heap.read (K3.set (h.length+1) (.cells [str (ckS .acyclic),.slice none 0 0,pt b,str []] 0 false)) ⟨h.length+1,0,some 0⟩ 4=some [str (ckS .acyclic),.slice none 0 0,pt b,str []]:=zkc c5 (by simp)
    have wr5:Heap.write (K3.set (h.length+1) (.cells [str (ckS .acyclic),.slice none 0 0,pt b,str []] 0 false)) ⟨h.length,0,some 0⟩ [str (ckS .acyclic),.slice none 0 0,pt b,str []]=some ((K3.set (h.length+1) (.cells [str (ckS .acyclic),.slice none 0 0,pt b,str []] 0 false)).set h.length (.cells [str (ckS .acyclic),.slice none 0 0,pt b,str []] 0 false)):=zd6 c4 (by simp [z4])
    have rd4:Heap.read ((K3.set (h.length+1) (.cells [str (ckS .acyclic),.slice none 0 0,pt b,str []] 0 false)).set h.length (.cells [str (ckS .acyclic),.slice none 0 0,pt b,str []] 0 false)) ⟨h.length,0,some 0⟩ 4=some [str (ckS .acyclic),.slice none 0 0,pt b,str []]:=bq (yoq.1 c4).1 (by simp)
    simp only [yo,zi,zb,yor,yos,slc,zf,z6,ym,qu,yy,xb,←hz,e0.r0,q1,e1.r0,q2,wE,c1,wF,fz c3 hx,rd3,wr5,rd4,f1,pkA,pkB]
    exact f2
   ·rw [ka] at d1
    have rd3:Heap.read K5 ⟨h.length+1,0,some 0⟩ 4=some [str (ckS .acyclic),.slice none 0 0,pt b,str []]:=zkc d3 (by simp)
    have wr5:Heap.write K5 ⟨h.length,0,some 0⟩ [str (ckS .acyclic),.slice none 0 0,pt b,str []]=some (K5.set h.length (.cells [str (ckS .acyclic),.slice none 0 0,pt b,str []] 0 false)):=zd6 d2 (by simp [z4])
    have rd4:Heap.read (K5.set h.length (.cells [str (ckS .acyclic),.slice none 0 0,pt b,str []] 0 false)) ⟨h.length,0,some 0⟩ 4=some [str (ckS .acyclic),.slice none 0 0,pt b,str []]:=bq (yoq.1 d2).1 (by simp)
    simp only [yo,zi,zb,yor,yos,slc,zf,z6,ym,qu,yy,xb,←hz,e0.r0,q1,e1.r0,q2,wE,c1,wF,ok_0 c3,c3.r0,yo3,d1,rd3,wr5,rd4,f1,pkA,pkB]
    exact f2
   ·rw [ka] at d1
    have wG:Heap.write1 K6 ⟨h.length+1,3,some 0⟩ (str w)=some (K6.set (h.length+1) (.cells [str (ckS .acyclic),.slice none 0 0,pt b,str w] 0 false)):=by rw [jo g2 (by simp)];rfl
    have rd3:Heap.read (K6.set (h.length+1) (.cells [str (ckS .acyclic),.slice none 0 0,pt b,str w] 0 false)) ⟨h.length+1,0,some 0⟩ 4=some [str (ckS .acyclic),.slice none 0 0,pt b,str w]:=bq (yoq.1 g2).1 (by simp)
    have g3':(K6.set (h.length+1) (.cells [str (ckS .acyclic),.slice none 0 0,pt b,str w] 0 false))[h.length]?=some (.cells z4 0 false):=by rw [you (by omega)];exact g3
    have wr5:Heap.write (K6.set (h.length+1) (.cells [str (ckS .acyclic),.slice none 0 0,pt b,str w] 0 false)) ⟨h.length,0,some 0⟩ [str (ckS .acyclic),.slice none 0 0,pt b,str w]=some ((K6.set (h.length+1) (.cells [str (ckS .acyclic),.slice none 0 0,pt b,str w] 0 false)).set h.length (.cells [str (ckS .acyclic),.slice none 0 0,pt b,str w] 0 false)):=zd6 g3' (by simp [z4])
    have rd4:Heap.read ((K6.set (h.length+1) (.cells [str (ckS .acyclic),.slice none 0 0,pt b,str w] 0 false)).set h.length (.cells [str (ckS .acyclic),.slice none 0 0,pt b,str w] 0 false)) ⟨h.length,0,some 0⟩ 4=some [str (ckS .acyclic),.slice none 0 0,pt b,str w]:=bq (yoq.1 g3').1 (by simp)
    simp only [yo,zi,zb,yor,yos,slc,zf,z6,ym,qu,yy,xb,←hz,e0.r0,q1,e1.r0,q2,wE,c1,wF,ok_0 c3,c3.r0,yo3,d1,g1,wG,rd3,wr5,rd4,f1,pkA,pkB]
    exact f2
  rw [kacyclic,if_neg yo1] at e2 hR
  rw [show (keyT (zd P i)==[97,99,121,99,108,105,99])=false from kacyclic] at q2
  obtain ⟨K3,q3,e3,m3⟩:=zkl (e2.more [.cells [str wIrr] 0 false]) (m:=wIrr) (by simp [wIrr]) (zoc K2 wIrr)
  have m3':Mv P H0 K3:=(m2'.trans (Mv.add P K2 _)).trans m3
  simp only [wIrr] at q3
  cases kirr:(keyT (zd P i)==wIrr)
  rotate_left
  ·rw [kirr,if_pos rfl] at e3 hR
   rw [show (keyT (zd P i)==[105,114,114,101,102,108,101,120,105,118,101])=true from kirr] at q3
   have oK:=p2 K3 m3'
   have lzK:=(yoq.1 oK).1
   obtain ⟨E,hE⟩:∃E,E=K3.set (h.length+1) (.cells [str (ckS .irr),.slice none 0 0,nilP,str []] 0 false):=⟨_,rfl⟩
   have wE:Heap.write1 K3 ⟨h.length+1,0,some 0⟩ (str [105,114,114,101,102,108,101,120,105,118,101])=some E:=by rw [jo oK (by simp [z4]),hE];rfl
   have eE:Rd P E (i+1) 0 0 0:=by rw [hE];exact e.upd e3 (by omega) _
   have mE:Mv P h E:=by rw [hE];exact (m0.trans m3').upd (by omega) _
   have zE:E[h.length]?=some (.cells z4 0 false):=by rw [hE,you (by omega)];exact p1 K3 m3'
   have uE:E[h.length+1]?=some (.cells [str (ckS .irr),.slice none 0 0,nilP,str []] 0 false):=by rw [hE,yox lzK]
   obtain ⟨b,K3,k3,x,a,c1,c2,c3,c4,c5,c6⟩:=zix e eE mE zE uE (by omega)
   have wF:Heap.write1 K3 ⟨h.length+1,2,some 0⟩ (pt b)=some (K3.set (h.length+1) (.cells [str (ckS .irr),.slice none 0 0,pt b,str []] 0 false)):=by rw [jo c2 (by simp)];rfl
   rw [hR]
   rcases c6 with ⟨hx,f1,f2⟩ | ⟨rfl,K5,d1,d2,d3,⟨ka,f1,f2⟩ | ⟨ka,w,p,K6,g1,g2,g3,f1,f2⟩⟩
   ·have rd3:Heap.read (K3.set (h.length+1) (.cells [str (ckS .irr),.slice none 0 0,pt b,str []] 0 false)) ⟨h.length+1,0,some 0⟩ 4=some [str (ckS .irr),.slice none 0 0,pt b,str []]:=zkc c5 (by simp)
    have wr5:Heap.write (K3.set (h.length+1) (.cells [str (ckS .irr),.slice none 0 0,pt b,str []] 0 false)) ⟨h.length,0,some 0⟩ [str (ckS .irr),.slice none 0 0,pt b,str []]=some ((K3.set (h.length+1) (.cells [str (ckS .irr),.slice none 0 0,pt b,str []] 0 false)).set h.length (.cells [str (ckS .irr),.slice none 0 0,pt b,str []] 0 false)):=zd6 c4 (by simp [z4])
    have rd4:Heap.read ((K3.set (h.length+1) (.cells [str (ckS .irr),.slice none 0 0,pt b,str []] 0 false)).set h.length (.cells [str (ckS .irr),.slice none 0 0,pt b,str []] 0 false)) ⟨h.length,0,some 0⟩ 4=some [str (ckS .irr),.slice none 0 0,pt b,str []]:=bq (yoq.1 c4).1 (by simp)
    simp only [yo,zi,zb,yor,yos,slc,zf,z6,ym,qu,yy,xb,←hz,e0.r0,q1,e1.r0,q2,e2.r0,q3,wE,c1,wF,fz c3 hx,rd3,wr5,rd4,f1,pkA,pkB]
    exact f2
   ·rw [ka] at d1
    have rd3:Heap.read K5 ⟨h.length+1,0,some 0⟩ 4=some [str (ckS .irr),.slice none 0 0,pt b,str []]:=zkc d3 (by simp)
    have wr5:Heap.write K5 ⟨h.length,0,some 0⟩ [str (ckS .irr),.slice none 0 0,pt b,str []]=some (K5.set h.length (.cells [str (ckS .irr),.slice none 0 0,pt b,str []] 0 false)):=zd6 d2 (by simp [z4])
    have rd4:Heap.read (K5.set h.length (.cells [str (ckS .irr),.slice none 0 0,pt b,str []] 0 false)) ⟨h.length,0,some 0⟩ 4=some [str (ckS .irr),.slice none 0 0,pt b,str []]:=bq (yoq.1 d2).1 (by simp)
    simp only [yo,zi,zb,yor,yos,slc,zf,z6,ym,qu,yy,xb,←hz,e0.r0,q1,e1.r0,q2,e2.r0,q3,wE,c1,wF,ok_0 c3,c3.r0,yo3,d1,rd3,wr5,rd4,f1,pkA,pkB]
    exact f2
   ·rw [ka] at d1
    have wG:Heap.write1 K6 ⟨h.length+1,3,some 0⟩ (str w)=some (K6.set (h.length+1) (.cells [str (ckS .irr),.slice none 0 0,pt b,str w] 0 false)):=by rw [jo g2 (by simp)];rfl
    have rd3:Heap.read (K6.set (h.length+1) (.cells [str (ckS .irr),.slice none 0 0,pt b,str w] 0 false)) ⟨h.length+1,0,some 0⟩ 4=some [str (ckS .irr),.slice none 0 0,pt b,str w]:=bq (yoq.1 g2).1 (by simp)
    have g3':(K6.set (h.length+1) (.cells [str (ckS .irr),.slice none 0 0,pt b,str w] 0 false))[h.length]?=some (.cells z4 0 false):=by rw [you (by omega)];exact g3
    have wr5:Heap.write (K6.set (h.length+1) (.cells [str (ckS .irr),.slice none 0 0,pt b,str w] 0 false)) ⟨h.length,0,some 0⟩ [str (ckS .irr),.slice none 0 0,pt b,str w]=some ((K6.set (h.length+1) (.cells [str (ckS .irr),.slice none 0 0,pt b,str w] 0 false)).set h.length (.cells [str (ckS .irr),.slice none 0 0,pt b,str w] 0 false)):=zd6 g3' (by simp [z4])
    have rd4:Heap.read ((K6.set (h.length+1) (.cells [str (ckS .irr),.slice none 0 0,pt b,str w] 0 false)).set h.length (.cells [str (ckS .irr),.slice none 0 0,pt b,str w] 0 false)) ⟨h.length,0,some 0⟩ 4=some [str (ckS .irr),.slice none 0 0,pt b,str w]:=bq (yoq.1 g3').1 (by simp)
    simp only [yo,zi,zb,yor,yos,slc,zf,z6,ym,qu,yy,xb,←hz,e0.r0,q1,e1.r0,q2,e2.r0,q3,wE,c1,wF,ok_0 c3,c3.r0,yo3,d1,g1,wG,rd3,wr5,rd4,f1,pkA,pkB]
    exact f2
  rw [kirr,if_neg yo1] at e3 hR
  rw [show (keyT (zd P i)==[105,114,114,101,102,108,101,120,105,118,101])=false from kirr] at q3
  obtain ⟨K4,q4,e4,m4⟩:=zkl (e3.more [.cells [str zcx] 0 false]) (m:=zcx) (by simp [zcx]) (zoc K3 zcx)
  have m4':Mv P H0 K4:=(m3'.trans (Mv.add P K3 _)).trans m4
  simp only [zcx] at q4
  cases kempty:(keyT (zd P i)==zcx)
  rotate_left
  ·rw [kempty,if_pos rfl] at e4 hR
   rw [show (keyT (zd P i)==[101,109,112,116,121])=true from kempty] at q4
   have oK:=p2 K4 m4'
   have lzK:=(yoq.1 oK).1
   obtain ⟨E,hE⟩:∃E,E=K4.set (h.length+1) (.cells [str (ckS .empty),.slice none 0 0,nilP,str []] 0 false):=⟨_,rfl⟩
   have wE:Heap.write1 K4 ⟨h.length+1,0,some 0⟩ (str [101,109,112,116,121])=some E:=by rw [jo oK (by simp [z4]),hE];rfl
   have eE:Rd P E (i+1) 0 0 0:=by rw [hE];exact e.upd e4 (by omega) _
   have mE:Mv P h E:=by rw [hE];exact (m0.trans m4').upd (by omega) _
   have zE:E[h.length]?=some (.cells z4 0 false):=by rw [hE,you (by omega)];exact p1 K4 m4'
   have uE:E[h.length+1]?=some (.cells [str (ckS .empty),.slice none 0 0,nilP,str []] 0 false):=by rw [hE,yox lzK]
   obtain ⟨b,K3,k3,x,a,c1,c2,c3,c4,c5,c6⟩:=zix e eE mE zE uE (by omega)
   have wF:Heap.write1 K3 ⟨h.length+1,2,some 0⟩ (pt b)=some (K3.set (h.length+1) (.cells [str (ckS .empty),.slice none 0 0,pt b,str []] 0 false)):=by rw [jo c2 (by simp)];rfl
   rw [hR]
   rcases c6 with ⟨hx,f1,f2⟩ | ⟨rfl,K5,d1,d2,d3,⟨ka,f1,f2⟩ | ⟨ka,w,p,K6,g1,g2,g3,f1,f2⟩⟩
   ·have rd3:Heap.read (K3.set (h.length+1) (.cells [str (ckS .empty),.slice none 0 0,pt b,str []] 0 false)) ⟨h.length+1,0,some 0⟩ 4=some [str (ckS .empty),.slice none 0 0,pt b,str []]:=zkc c5 (by simp)
    have wr5:Heap.write (K3.set (h.length+1) (.cells [str (ckS .empty),.slice none 0 0,pt b,str []] 0 false)) ⟨h.length,0,some 0⟩ [str (ckS .empty),.slice none 0 0,pt b,str []]=some ((K3.set (h.length+1) (.cells [str (ckS .empty),.slice none 0 0,pt b,str []] 0 false)).set h.length (.cells [str (ckS .empty),.slice none 0 0,pt b,str []] 0 false)):=zd6 c4 (by simp [z4])
    have rd4:Heap.read ((K3.set (h.length+1) (.cells [str (ckS .empty),.slice none 0 0,pt b,str []] 0 false)).set h.length (.cells [str (ckS .empty),.slice none 0 0,pt b,str []] 0 false)) ⟨h.length,0,some 0⟩ 4=some [str (ckS .empty),.slice none 0 0,pt b,str []]:=bq (yoq.1 c4).1 (by simp)
    simp only [yo,zi,zb,yor,yos,slc,zf,z6,ym,qu,yy,xb,←hz,e0.r0,q1,e1.r0,q2,e2.r0,q3,e3.r0,q4,wE,c1,wF,fz c3 hx,rd3,wr5,rd4,f1,pkA,pkB]
    exact f2
   ·rw [ka] at d1
    have rd3:Heap.read K5 ⟨h.length+1,0,some 0⟩ 4=some [str (ckS .empty),.slice none 0 0,pt b,str []]:=zkc d3 (by simp)
    have wr5:Heap.write K5 ⟨h.length,0,some 0⟩ [str (ckS .empty),.slice none 0 0,pt b,str []]=some (K5.set h.length (.cells [str (ckS .empty),.slice none 0 0,pt b,str []] 0 false)):=zd6 d2 (by simp [z4])
    have rd4:Heap.read (K5.set h.length (.cells [str (ckS .empty),.slice none 0 0,pt b,str []] 0 false)) ⟨h.length,0,some 0⟩ 4=some [str (ckS .empty),.slice none 0 0,pt b,str []]:=bq (yoq.1 d2).1 (by simp)
    simp only [yo,zi,zb,yor,yos,slc,zf,z6,ym,qu,yy,xb,←hz,e0.r0,q1,e1.r0,q2,e2.r0,q3,e3.r0,q4,wE,c1,wF,ok_0 c3,c3.r0,yo3,d1,rd3,wr5,rd4,f1,pkA,pkB]
    exact f2
   ·rw [ka] at d1
    have wG:Heap.write1 K6 ⟨h.length+1,3,some 0⟩ (str w)=some (K6.set (h.length+1) (.cells [str (ckS .empty),.slice none 0 0,pt b,str w] 0 false)):=by rw [jo g2 (by simp)];rfl
    have rd3:Heap.read (K6.set (h.length+1) (.cells [str (ckS .empty),.slice none 0 0,pt b,str w] 0 false)) ⟨h.length+1,0,some 0⟩ 4=some [str (ckS .empty),.slice none 0 0,pt b,str w]:=bq (yoq.1 g2).1 (by simp)
    have g3':(K6.set (h.length+1) (.cells [str (ckS .empty),.slice none 0 0,pt b,str w] 0 false))[h.length]?=some (.cells z4 0 false):=by rw [you (by omega)];exact g3
    have wr5:Heap.write (K6.set (h.length+1) (.cells [str (ckS .empty),.slice none 0 0,pt b,str w] 0 false)) ⟨h.length,0,some 0⟩ [str (ckS .empty),.slice none 0 0,pt b,str w]=some ((K6.set (h.length+1) (.cells [str (ckS .empty),.slice none 0 0,pt b,str w] 0 false)).set h.length (.cells [str (ckS .empty),.slice none 0 0,pt b,str w] 0 false)):=zd6 g3' (by simp [z4])
    have rd4:Heap.read ((K6.set (h.length+1) (.cells [str (ckS .empty),.slice none 0 0,pt b,str w] 0 false)).set h.length (.cells [str (ckS .empty),.slice none 0 0,pt b,str w] 0 false)) ⟨h.length,0,some 0⟩ 4=some [str (ckS .empty),.slice none 0 0,pt b,str w]:=bq (yoq.1 g3').1 (by simp)
    simp only [yo,zi,zb,yor,yos,slc,zf,z6,ym,qu,yy,xb,←hz,e0.r0,q1,e1.r0,q2,e2.r0,q3,e3.r0,q4,wE,c1,wF,ok_0 c3,c3.r0,yo3,d1,g1,wG,rd3,wr5,rd4,f1,pkA,pkB]
    exact f2
  rw [kempty,if_neg yo1] at e4 hR
  rw [show (keyT (zd P i)==[101,109,112,116,121])=false from kempty] at q4
  obtain ⟨K5,q5,e5,m5⟩:=zhc e4
  have m5':=m4'.trans m5
  have z0:=p1 K5 m5'
  have z1:=p2 K5 m5'
  have hz4:z4=[str [],.slice none 0 0,.pointer none,str []]:=rfl
  have rd3:Heap.read K5 ⟨h.length+1,0,some 0⟩ 4=some [str [],.slice none 0 0,.pointer none,str []]:=zkc z1 (by simp [z4])
  have wr5:Heap.write K5 ⟨h.length,0,some 0⟩ [str [],.slice none 0 0,.pointer none,str []]=some (K5.set h.length (.cells z4 0 false)):=zd6 z0 (by simp [z4])
  have rd4:Heap.read (K5.set h.length (.cells z4 0 false)) ⟨h.length,0,some 0⟩ 4=some [str [],.slice none 0 0,.pointer none,str []]:=bq (yoq.1 z0).1 (by simp [z4])
  have f:=fun v=>e.finS (e.upd e5 (yoz _) (.cells z4 0 false)) ((m0.trans m5').upd (yoz _) _) v (.inr (wq P i))
  simp only [yo,zb,yor,yos,slc,zf,ym,qu,yy,xb,←hz,e0.r0,q1,e1.r0,q2,e2.r0,q3,e3.r0,q4,q5,rd3,wr5,rd4,f,pkA,pkB]
  rw [hR]
  have hc:k9 P i=22:=by unfold k9;rw [if_pos hi]
  have ha:gt P i=(zd P i).at_:=by unfold gt;rw [if_pos hi]
  rw [hc,ha] at e5
  exact ⟨_,rfl,by simp,by omega,⟨i,e.upd e5 (yoz _) _⟩,(m0.trans m5').upd (yoz _) _⟩
 ·rw [kl,if_pos rfl] at e1 hR
  rw [show (keyT (zd P i)==[108,101,116])=true from kl] at q1
  have hRk:R=if keyT (zd P (i+1))==wRec then zi8 P.en true (P.L.drop (i+1+1)) else zi8 P.en false (P.L.drop (i+1)):=by
   rw [hR]
   by_cases hk:i+1<P.L.length
   ·rw [jx hk];rfl
   ·rw [yo5 (by omega),xx hk,zbb];rfl
  have oK1:=p2 K1 m1'
  have hlK1:=(yoq.1 oK1).1
  have eK1:Rd P (K1.set (h.length+1) (.cells [str wLet,.slice none 0 0,nilP,str []] 0 false)) (i+1) 0 0 0:=e.upd e1 (by omega) _
  have mK1:Mv P h (K1.set (h.length+1) (.cells [str wLet,.slice none 0 0,nilP,str []] 0 false)):=(m0.trans m1').upd (by omega) _
  have zE1:(K1.set (h.length+1) (.cells [str wLet,.slice none 0 0,nilP,str []] 0 false))[h.length]?=some (.cells z4 0 false):=by rw [you (by omega)];exact p1 K1 m1'
  obtain ⟨E1,hE1⟩:∃E1,E1=K1.set (h.length+1) (.cells [str wLet,.slice none 0 0,nilP,str []] 0 false):=⟨_,rfl⟩
  have oE1:E1[h.length+1]?=some (.cells [str wLet,.slice none 0 0,nilP,str []] 0 false):=by rw [hE1,yox hlK1]
  rw [←hE1] at eK1 mK1 zE1
  obtain ⟨K2,q2,e2,m2⟩:=zkl (eK1.more [.cells [str wRec] 0 false]) (m:=wRec) (by simp [wRec]) (zoc E1 wRec)
  have m2':Mv P E1 K2:=(Mv.add P E1 _).trans m2
  have zK2:=m2'.keep _ _ zE1 (by omega) (by omega)
  have oK2:K2[h.length+1]?=some (.cells [str wLet,.slice none 0 0,nilP,str []] 0 false):=m2'.keep _ _ oE1 (by omega) (by omega)
  have hlK2:=(yoq.1 oK2).1
  simp only [wRec] at q2
  have w1:Heap.write1 K1 ⟨h.length+1,0,some 0⟩ (str [108,101,116])=some E1:=by rw [jo oK1 (by simp [z4]),hE1];rfl
  have w2:Heap.write1 K2 ⟨h.length+1,0,some 0⟩ (str [114,101,99])=some (K2.set (h.length+1) (.cells [str wRec,.slice none 0 0,nilP,str []] 0 false)):=by rw [jo oK2 (by simp)];rfl
  cases kr:(keyT (zd P (i+1))==wRec)
  all_goals rw [kr] at hRk e2;rw [show (keyT (zd P (i+1))==[114,101,99])=_ from kr] at q2
  all_goals first | rw [if_neg yo1] at hRk e2 | rw [if_pos rfl] at hRk e2
  ·have L0:=ztk (h:=h) false K2 (i+1) e2 (mK1.trans m2') zK2 oK2 hRk
   simp only [yo,zb,yos,slc,zf,z6,ym,←hz,e0.r0,q1,w1,eK1.r0,q2,pkA,pkB]
   refine zgx (LetI P h R false i) ?_ (P.L.length - (i+1)+1) _ ⟨K2,i+1,by omega,junk rfl,L0⟩
   rintro m st ⟨K,k,hik,⟨j,rfl⟩,s,vs,S,acc,rfl,eK,hz0,hz1,own,gs,hS,hb,mK,hacc,hg⟩
   obtain ⟨w,p,J1,J2,J3,b,a',n',c',J4,k3,x,a,r1,r2,r3,r4,r5,r6,r7,r8,r9,r10,r11,r12,r13⟩:=zs9 e eK hz0 hz1 own gs hS hb mK hacc hg
   have lK:=mK.le
   have lz:=(yoq.1 hz1).1
   have lJ1:=(yoq.1 r2).1
   have lJ3:=(yoq.1 r5).1
   have wr1:Heap.write1 J1 ⟨K.length,0,some 0⟩ (str w)=some (J1.set K.length (.cells [str w,.int .i64 0,nilP] 0 false)):=by rw [jo r2 (by simp)];rfl
   have wr2:Heap.write1 (J1.set K.length (.cells [str w,.int .i64 0,nilP] 0 false)) ⟨K.length,1,some 0⟩ (.int .i64 p)=some (J1.set K.length (.cells [str w,.int .i64 p,nilP] 0 false)):=by rw [zi5 lJ1 (by simp)];rfl
   have wr3:Heap.write1 J3 ⟨K.length,2,some 0⟩ (pt b)=some (J3.set K.length (.cells [str w,.int .i64 p,pt b] 0 false)):=by rw [jo r5 (by simp)];rfl
   have rd1:Heap.read1 (J3.set K.length (.cells [str w,.int .i64 p,pt b] 0 false)) ⟨h.length+1,1,some 0⟩=some s:=by rw [yg2 (by simp;omega),zr r6];rfl
   have rd2:Heap.read (J3.set K.length (.cells [str w,.int .i64 p,pt b] 0 false)) ⟨K.length,0,some 0⟩ 3=some [str w,.int .i64 p,pt b]:=bq lJ3 (by simp)
   obtain ⟨E,hE⟩:∃E,E=J4.set (h.length+1) (.cells [str (kwOf false),.slice a' n' c',nilP,str []] 0 false):=⟨_,rfl⟩
   have wr4:Heap.write1 J4 ⟨h.length+1,1,some 0⟩ (.slice a' n' c')=some E:=by rw [jo r8 (by simp),hE];rfl
   rw [←hE] at r9 r10 r11 r12 r13
   have row4:([str (kwOf false),.slice a' n' c',nilP,str []]:List Value).length=4:=by simp
   rcases r13 with ⟨hx,hRb⟩ | ⟨rfl,rfl,hk3,S',g,g1,g2,g3,g4,g5⟩
   ·have rd3:Heap.read E ⟨h.length+1,0,some 0⟩ 4=some [str (kwOf false),.slice a' n' c',nilP,str []]:=zkc r12 (by simp)
    have wr5:Heap.write E ⟨h.length,0,some 0⟩ [str (kwOf false),.slice a' n' c',nilP,str []]=some (E.set h.length (.cells [str (kwOf false),.slice a' n' c',nilP,str []] 0 false)):=zd6 r11 (by simp [z4])
    have rd4:Heap.read (E.set h.length (.cells [str (kwOf false),.slice a' n' c',nilP,str []] 0 false)) ⟨h.length,0,some 0⟩ 4=some [str (kwOf false),.slice a' n' c',nilP,str []]:=bq (yoq.1 r11).1 (by simp)
    simp only [zi,zb,yor,slc,z6,qu,yy,xb,r1,wr1,wr2,r3,r4,wr3,rd1,rd2,zgk,yo3,r7,wr4,fz r9 hx,rd3,wr5,rd4,pkA,pkB]
    have st:=yey e r9 r10 r12 hx hRb
    rw [e.finS (e.upd r9 (yoz _) _) (r10.upd (yoz _) _) _ (.inr hx)]
    exact st
   ·obtain ⟨J5,q5,e5,m5⟩:=zkl (r9.more [.cells [str wAnd] 0 false]) (m:=wAnd) (by simp [wAnd]) (zoc E wAnd)
    have m5':Mv P E J5:=(Mv.add P E _).trans m5
    simp only [wAnd] at q5
    cases kw:(keyT (zd P k3)==wAnd)
    ·rw [kw,if_neg yo1] at e5 g5
     rw [show (keyT (zd P k3)==[97,110,100])=false from kw] at q5
     have t11:=m5'.keep _ _ r11 (by omega) (by omega)
     have t12:=m5'.keep _ _ r12 (by omega) (by omega)
     have rd3:Heap.read J5 ⟨h.length+1,0,some 0⟩ 4=some [str (kwOf false),.slice a' n' c',nilP,str []]:=zkc t12 (by simp)
     have wr5:Heap.write J5 ⟨h.length,0,some 0⟩ [str (kwOf false),.slice a' n' c',nilP,str []]=some (J5.set h.length (.cells [str (kwOf false),.slice a' n' c',nilP,str []] 0 false)):=zd6 t11 (by simp [z4])
     have rd4:Heap.read (J5.set h.length (.cells [str (kwOf false),.slice a' n' c',nilP,str []] 0 false)) ⟨h.length,0,some 0⟩ 4=some [str (kwOf false),.slice a' n' c',nilP,str []]:=bq (yoq.1 t11).1 (by simp)
     simp only [zi,zb,yor,slc,z6,ym,qu,yy,xb,r1,wr1,wr2,r3,r4,wr3,rd1,rd2,zgk,yo3,r7,wr4,ok_0 r9,r9.r0,q5,rd3,wr5,rd4,pkA,pkB]
     rw [e.finS (e.upd e5 (yoz _) _) ((r10.trans m5').upd (yoz _) _) _ (.inl (by omega)),g5]
     have l5:=m5'.le
     refine ⟨_,k3,rfl,rfl,e.upd e5 (yoz _) _,⟨.slice a' n' c',vs++[pt b],S',rfl,?_,?_,?_,?_⟩,(r10.trans m5').upd (yoz _) _⟩
     ·exact (g1.sl.keep fun c hc o ho=>by
       have:=g4 c hc
       rw [you (by omega)]
       exact m5'.keep c o ho (by omega) (by omega))
     ·exact g2.keep fun c o hc ho=>by
       have:=(g3 c hc).1
       rw [you (by omega)]
       exact m5'.keep c o ho (by omega) (by omega)
     ·intro z hz
      obtain ⟨z1,z2,z3⟩:=g3 z hz
      exact ⟨⟨by omega,by rw [yo3];omega⟩,z3⟩
     ·intro b hb'
      have:=g4 b hb'
      have:=(g1.lt hb').2
      exact ⟨by omega,by rw [yo3];omega⟩
    ·rw [kw,if_pos rfl] at e5 g5
     rw [show (keyT (zd P k3)==[97,110,100])=true from kw] at q5
     simp only [zi,zb,yor,slc,z6,ym,r1,wr1,wr2,r3,r4,wr3,rd1,rd2,zgk,yo3,r7,wr4,ok_0 r9,r9.r0,q5,pkA,pkB]
     have hk3l:=zps (by simp [wAnd]) kw
     have l5:=m5'.le
     refine ⟨P.L.length - (k3+1)+1,by omega,J5,k3+1,by omega,junk rfl,.slice a' n' c',_,S',acc++[g],rfl,e5,m5'.keep _ _ r11 (by omega) (by omega),m5'.keep _ _ r12 (by omega) (by omega),g1.keep fun c hc o ho=>m5'.keep c o ho (by have:=g4 c hc;omega) (by have:=g4 c hc;omega),g2.keep fun c o hc ho=>m5'.keep c o ho (by have:=(g3 c hc).1;omega) (by have:=(g3 c hc).1;omega),?_,g4,r10.trans m5',by simp;omega,g5⟩
     intro z hz
     obtain ⟨z1,z2,z3⟩:=g3 z hz
     exact ⟨z1,by omega,z3⟩
  ·have L0:=ztk (h:=h) true (K2.set (h.length+1) (.cells [str wRec,.slice none 0 0,nilP,str []] 0 false)) (i+1+1) (e.upd e2 (by omega) _) ((mK1.trans m2').upd (by omega) _) (by rw [you (by omega)];exact zK2) (by rw [yox hlK2];rfl) hRk
   simp only [yo,zb,yos,slc,zf,z6,ym,←hz,e0.r0,q1,w1,eK1.r0,q2,w2,pkA,pkB]
   refine zgx (LetI P h R true i) ?_ (P.L.length - (i+1+1)+1) _ ⟨_,i+1+1,by omega,junk rfl,L0⟩
   rintro m st ⟨K,k,hik,⟨j,rfl⟩,s,vs,S,acc,rfl,eK,hz0,hz1,own,gs,hS,hb,mK,hacc,hg⟩
   obtain ⟨w,p,J1,J2,J3,b,a',n',c',J4,k3,x,a,r1,r2,r3,r4,r5,r6,r7,r8,r9,r10,r11,r12,r13⟩:=zs9 e eK hz0 hz1 own gs hS hb mK hacc hg
   have lK:=mK.le
   have lz:=(yoq.1 hz1).1
   have lJ1:=(yoq.1 r2).1
   have lJ3:=(yoq.1 r5).1
   have wr1:Heap.write1 J1 ⟨K.length,0,some 0⟩ (str w)=some (J1.set K.length (.cells [str w,.int .i64 0,nilP] 0 false)):=by rw [jo r2 (by simp)];rfl
   have wr2:Heap.write1 (J1.set K.length (.cells [str w,.int .i64 0,nilP] 0 false)) ⟨K.length,1,some 0⟩ (.int .i64 p)=some (J1.set K.length (.cells [str w,.int .i64 p,nilP] 0 false)):=by rw [zi5 lJ1 (by simp)];rfl
   have wr3:Heap.write1 J3 ⟨K.length,2,some 0⟩ (pt b)=some (J3.set K.length (.cells [str w,.int .i64 p,pt b] 0 false)):=by rw [jo r5 (by simp)];rfl
   have rd1:Heap.read1 (J3.set K.length (.cells [str w,.int .i64 p,pt b] 0 false)) ⟨h.length+1,1,some 0⟩=some s:=by rw [yg2 (by simp;omega),zr r6];rfl
   have rd2:Heap.read (J3.set K.length (.cells [str w,.int .i64 p,pt b] 0 false)) ⟨K.length,0,some 0⟩ 3=some [str w,.int .i64 p,pt b]:=bq lJ3 (by simp)
   obtain ⟨E,hE⟩:∃E,E=J4.set (h.length+1) (.cells [str (kwOf true),.slice a' n' c',nilP,str []] 0 false):=⟨_,rfl⟩
   have wr4:Heap.write1 J4 ⟨h.length+1,1,some 0⟩ (.slice a' n' c')=some E:=by rw [jo r8 (by simp),hE];rfl
   rw [←hE] at r9 r10 r11 r12 r13
   have row4:([str (kwOf true),.slice a' n' c',nilP,str []]:List Value).length=4:=by simp
   rcases r13 with ⟨hx,hRb⟩ | ⟨rfl,rfl,hk3,S',g,g1,g2,g3,g4,g5⟩
   ·have rd3:Heap.read E ⟨h.length+1,0,some 0⟩ 4=some [str (kwOf true),.slice a' n' c',nilP,str []]:=zkc r12 (by simp)
    have wr5:Heap.write E ⟨h.length,0,some 0⟩ [str (kwOf true),.slice a' n' c',nilP,str []]=some (E.set h.length (.cells [str (kwOf true),.slice a' n' c',nilP,str []] 0 false)):=zd6 r11 (by simp [z4])
    have rd4:Heap.read (E.set h.length (.cells [str (kwOf true),.slice a' n' c',nilP,str []] 0 false)) ⟨h.length,0,some 0⟩ 4=some [str (kwOf true),.slice a' n' c',nilP,str []]:=bq (yoq.1 r11).1 (by simp)
    simp only [zi,zb,yor,slc,z6,qu,yy,xb,r1,wr1,wr2,r3,r4,wr3,rd1,rd2,zgk,yo3,r7,wr4,fz r9 hx,rd3,wr5,rd4,pkA,pkB]
    have st:=yey e r9 r10 r12 hx hRb
    rw [e.finS (e.upd r9 (yoz _) _) (r10.upd (yoz _) _) _ (.inr hx)]
    exact st
   ·obtain ⟨J5,q5,e5,m5⟩:=zkl (r9.more [.cells [str wAnd] 0 false]) (m:=wAnd) (by simp [wAnd]) (zoc E wAnd)
    have m5':Mv P E J5:=(Mv.add P E _).trans m5
    simp only [wAnd] at q5
    cases kw:(keyT (zd P k3)==wAnd)
    ·rw [kw,if_neg yo1] at e5 g5
     rw [show (keyT (zd P k3)==[97,110,100])=false from kw] at q5
     have t11:=m5'.keep _ _ r11 (by omega) (by omega)
     have t12:=m5'.keep _ _ r12 (by omega) (by omega)
     have rd3:Heap.read J5 ⟨h.length+1,0,some 0⟩ 4=some [str (kwOf true),.slice a' n' c',nilP,str []]:=zkc t12 (by simp)
     have wr5:Heap.write J5 ⟨h.length,0,some 0⟩ [str (kwOf true),.slice a' n' c',nilP,str []]=some (J5.set h.length (.cells [str (kwOf true),.slice a' n' c',nilP,str []] 0 false)):=zd6 t11 (by simp [z4])
     have rd4:Heap.read (J5.set h.length (.cells [str (kwOf true),.slice a' n' c',nilP,str []] 0 false)) ⟨h.length,0,some 0⟩ 4=some [str (kwOf true),.slice a' n' c',nilP,str []]:=bq (yoq.1 t11).1 (by simp)
     simp only [zi,zb,yor,slc,z6,ym,qu,yy,xb,r1,wr1,wr2,r3,r4,wr3,rd1,rd2,zgk,yo3,r7,wr4,ok_0 r9,r9.r0,q5,rd3,wr5,rd4,pkA,pkB]
     rw [e.finS (e.upd e5 (yoz _) _) ((r10.trans m5').upd (yoz _) _) _ (.inl (by omega)),g5]
     have l5:=m5'.le
     refine ⟨_,k3,rfl,rfl,e.upd e5 (yoz _) _,⟨.slice a' n' c',vs++[pt b],S',rfl,?_,?_,?_,?_⟩,(r10.trans m5').upd (yoz _) _⟩
     ·exact (g1.sl.keep fun c hc o ho=>by
       have:=g4 c hc
       rw [you (by omega)]
       exact m5'.keep c o ho (by omega) (by omega))
     ·exact g2.keep fun c o hc ho=>by
       have:=(g3 c hc).1
       rw [you (by omega)]
       exact m5'.keep c o ho (by omega) (by omega)
     ·intro z hz
      obtain ⟨z1,z2,z3⟩:=g3 z hz
      exact ⟨⟨by omega,by rw [yo3];omega⟩,z3⟩
     ·intro b hb'
      have:=g4 b hb'
      have:=(g1.lt hb').2
      exact ⟨by omega,by rw [yo3];omega⟩
    ·rw [kw,if_pos rfl] at e5 g5
     rw [show (keyT (zd P k3)==[97,110,100])=true from kw] at q5
     simp only [zi,zb,yor,slc,z6,ym,r1,wr1,wr2,r3,r4,wr3,rd1,rd2,zgk,yo3,r7,wr4,ok_0 r9,r9.r0,q5,pkA,pkB]
     have hk3l:=zps (by simp [wAnd]) kw
     have l5:=m5'.le
     refine ⟨P.L.length - (k3+1)+1,by omega,J5,k3+1,by omega,junk rfl,.slice a' n' c',_,S',acc++[g],rfl,e5,m5'.keep _ _ r11 (by omega) (by omega),m5'.keep _ _ r12 (by omega) (by omega),g1.keep fun c hc o ho=>m5'.keep c o ho (by have:=g4 c hc;omega) (by have:=g4 c hc;omega),g2.keep fun c o hc ho=>m5'.keep c o ho (by have:=(g3 c hc).1;omega) (by have:=(g3 c hc).1;omega),?_,g4,r10.trans m5',by simp;omega,g5⟩
     intro z hz
     obtain ⟨z1,z2,z3⟩:=g3 z hz
     exact ⟨z1,by omega,z3⟩
section
variable {call:vf} (ρ:Operand→Value) (h:Heap)
def zqo (h:Heap) (kk:EqK) (z:Value) (ok:Bool) (m k:Value):Option (Value×Heap):=
 match (if zfl kk k then zmj h kk k m else none) with
 | some (some v)=>some (if ok then tup [v,.bool true] else v,h)
 | some none=>some (if ok then tup [z,.bool false] else z,h)
 | none=>none
theorem fo (kk:EqK) (z:Value) (m k:Operand) (ok:Bool):evOp call ρ h (.lookup kk z m k ok)=zqo h kk z ok (ρ m) (ρ k):=rfl
def updO (h:Heap) (kk:EqK):Value→Value→Value→Option (Value×Heap)
 | .map (some b),k,v=>match h[b]? with
  | some (.map es)=>if zfl kk k then (za6 kk k v es).map fun es'=>(undef,h.set b (.map es')) else none
  | _=>none
 | _,_,_=>none
theorem b8 (kk:EqK) (m k v:Operand):evOp call ρ h (.update kk m k v)=updO h kk (ρ m) (ρ k) (ρ v):=by
 simp only [evOp];generalize ρ m=x
 cases x <;> try rfl
 rename_i b
 cases b <;> rfl
theorem zgm:evOp call ρ h .mkMap=some (.map (some h.length),h++[.map []]):=rfl
theorem ygc (z:Value) (ok:Bool) (w:Bys):zqo h .str z ok (.map none) (str w)=some (if ok then tup [z,.bool false] else z,h):=rfl
def zld (z:Value) (ok:Bool):Option Value→Value
 | some v=>if ok then tup [v,.bool true] else v
 | none=>if ok then tup [z,.bool false] else z
theorem zi2 {b:Nat} {es:List (Value×Value)} (e:h[b]?=some (.map es)) (z:Value) (ok:Bool) {w:Bys} {r:Option Value} (hf:findKey .str (str w) es=some r):zqo h .str z ok (.map (some b)) (str w)=some (zld z ok r,h):=by
 have hk:zfl .str (str w)=true:=rfl
 simp only [zqo,hk,if_true,zmj,e,hf]
 cases r <;> rfl
theorem zqd {b:Nat} {es es':List (Value×Value)} (e:h[b]?=some (.map es)) {w:Bys} {v:Value} (hs:za6 .str (str w) v es=some es'):updO h .str (.map (some b)) (str w) v=some (undef,h.set b (.map es')):=by
 have hk:zfl .str (str w)=true:=rfl
 simp only [updO,e,hk,if_true,hs,yp6]
end
theorem zrh {α:Type} (f:α→Value) (w:Bys):∀l:List (Bys×α),findKey .str (str w) (l.map fun p=>(str p.1,f p.2))=some ((l.find? fun p=>w==p.1).map fun p=>f p.2)
 | []=>rfl
 | (k,a)::l=>by
  rw [ypr,findKey,zpk,List.find?_cons]
  simp only
  cases (w==k)
  ·exact zrh f w l
  ·rfl
theorem zwq {α:Type} (f:α→Value) (w:Bys) (a:α):∀l:List (Bys×α),(l.find? fun p=>w==p.1)=none→za6 .str (str w) (f a) (l.map fun p=>(str p.1,f p.2))=some ((l++[(w,a)]).map fun p=>(str p.1,f p.2))
 | [],h=>rfl
 | (k,b)::l,h=>by
  rw [List.find?_cons] at h
  rw [ypr,za6,zpk]
  cases hk:(w==k)
  ·rw [hk] at h
   simp only at h ⊢
   rw [zwq f w a l h];rfl
  ·rw [hk] at h;cases h
theorem zh7 (kn:Kn) (w:Bys):wn kn w=(kn.find? fun p=>w==p.1).map (·.2):=by
 induction kn with
 | nil=>rfl
 | cons p r ih=>
  obtain ⟨v,s⟩:=p
  rw [wn,List.find?_cons]
  simp only
  cases hk:(w==v)
  ·simp only [yoy,if_false];exact ih
  ·simp
theorem yjb:(([110,97,109,101]:Bys)==[92])=false:=rfl
theorem yir:(([124]:Bys)==[110,97,109,101])=false:=rfl
theorem ybk:(([124]:Bys)==[92])=false:=rfl
theorem ym7:(([124]:Bys)==[40])=false:=rfl
theorem yiw:(([38]:Bys)==[110,97,109,101])=false:=rfl
theorem yjh:(([38]:Bys)==[124])=false:=rfl
theorem yeu:(([38]:Bys)==[92])=false:=rfl
theorem ymr:(([38]:Bys)==[40])=false:=rfl
theorem yit:(([92]:Bys)==[110,97,109,101])=false:=rfl
theorem yix:(([92]:Bys)==[124])=false:=rfl
theorem yjg:(([92]:Bys)==[38])=false:=rfl
theorem ymq:(([92]:Bys)==[40])=false:=rfl
theorem yim:(([59]:Bys)==[110,97,109,101])=false:=rfl
theorem yi7:(([59]:Bys)==[124])=false:=rfl
theorem yi9:(([59]:Bys)==[38])=false:=rfl
theorem zyb:(([59]:Bys)==[92])=false:=rfl
theorem ynh:(([59]:Bys)==[40])=false:=rfl
theorem yih:(([120]:Bys)==[110,97,109,101])=false:=rfl
theorem yiy:(([120]:Bys)==[124])=false:=rfl
theorem yi5:(([120]:Bys)==[38])=false:=rfl
theorem zyo:(([120]:Bys)==[92])=false:=rfl
theorem yji:(([120]:Bys)==[59])=false:=rfl
theorem ymg:(([120]:Bys)==[40])=false:=rfl
theorem zs0:(([91]:Bys)==[110,97,109,101])=false:=rfl
theorem zt0:(([91]:Bys)==[124])=false:=rfl
theorem ztr:(([91]:Bys)==[38])=false:=rfl
theorem zpz:(([91]:Bys)==[92])=false:=rfl
theorem ztw:(([91]:Bys)==[59])=false:=rfl
theorem zs7:(([91]:Bys)==[120])=false:=rfl
theorem yl6:(([91]:Bys)==[40])=false:=rfl
theorem ydy:(([40]:Bys)==[110,97,109,101])=false:=rfl
theorem yiq:(([40]:Bys)==[124])=false:=rfl
theorem yi2:(([40]:Bys)==[38])=false:=rfl
theorem ydi:(([40]:Bys)==[92])=false:=rfl
theorem yig:(([40]:Bys)==[59])=false:=rfl
theorem yi6:(([40]:Bys)==[120])=false:=rfl
theorem yjd:(([40]:Bys)==[91])=false:=rfl
theorem ybs:(([43]:Bys)==[110,97,109,101])=false:=rfl
theorem ybq:(([43]:Bys)==[124])=false:=rfl
theorem ycn:(([43]:Bys)==[38])=false:=rfl
theorem zx8:(([43]:Bys)==[92])=false:=rfl
theorem yd7:(([43]:Bys)==[59])=false:=rfl
theorem yfi:(([43]:Bys)==[120])=false:=rfl
theorem ybm:(([43]:Bys)==[91])=false:=rfl
theorem yfm:(([43]:Bys)==[40])=false:=rfl
theorem yb3:(([42]:Bys)==[110,97,109,101])=false:=rfl
theorem ya6:(([42]:Bys)==[124])=false:=rfl
theorem ycq:(([42]:Bys)==[38])=false:=rfl
theorem zxe:(([42]:Bys)==[92])=false:=rfl
theorem ya4:(([42]:Bys)==[59])=false:=rfl
theorem yc9:(([42]:Bys)==[120])=false:=rfl
theorem ya3:(([42]:Bys)==[91])=false:=rfl
theorem yev:(([42]:Bys)==[40])=false:=rfl
theorem yb8:(([42]:Bys)==[43])=false:=rfl
theorem zv0:(([63]:Bys)==[110,97,109,101])=false:=rfl
theorem zwo:(([63]:Bys)==[124])=false:=rfl
theorem zuk:(([63]:Bys)==[38])=false:=rfl
theorem zrv:(([63]:Bys)==[92])=false:=rfl
theorem zv3:(([63]:Bys)==[59])=false:=rfl
theorem zwi:(([63]:Bys)==[120])=false:=rfl
theorem zuy:(([63]:Bys)==[91])=false:=rfl
theorem zwg:(([63]:Bys)==[40])=false:=rfl
theorem zvr:(([63]:Bys)==[43])=false:=rfl
theorem zvn:(([63]:Bys)==[42])=false:=rfl
theorem zwf:(([94]:Bys)==[110,97,109,101])=false:=rfl
theorem zu5:(([94]:Bys)==[124])=false:=rfl
theorem zuc:(([94]:Bys)==[38])=false:=rfl
theorem zqi:(([94]:Bys)==[92])=false:=rfl
theorem zvc:(([94]:Bys)==[59])=false:=rfl
theorem zwy:(([94]:Bys)==[120])=false:=rfl
theorem zv4:(([94]:Bys)==[91])=false:=rfl
theorem zu4:(([94]:Bys)==[40])=false:=rfl
theorem zwx:(([94]:Bys)==[43])=false:=rfl
theorem zwv:(([94]:Bys)==[42])=false:=rfl
theorem zr1:(([94]:Bys)==[63])=false:=rfl
theorem zum:(([48]:Bys)==[110,97,109,101])=false:=rfl
theorem zuh:(([48]:Bys)==[124])=false:=rfl
theorem zuv:(([48]:Bys)==[38])=false:=rfl
theorem zv8:(([48]:Bys)==[92])=false:=rfl
theorem zva:(([48]:Bys)==[59])=false:=rfl
theorem zve:(([48]:Bys)==[120])=false:=rfl
theorem zux:(([48]:Bys)==[91])=false:=rfl
theorem zvp:(([48]:Bys)==[40])=false:=rfl
theorem zvk:(([48]:Bys)==[43])=false:=rfl
theorem zuw:(([48]:Bys)==[42])=false:=rfl
theorem zqq:(([48]:Bys)==[63])=false:=rfl
theorem zrj:(([48]:Bys)==[94])=false:=rfl
def knE (kn:Kn):List (Value×Value):=kn.map fun p=>(str p.1,.bool p.2)
def rcE (rc:List Bys):List (Value×Value):=(rc.map fun w=>(w,())).map fun p=>(str p.1,.bool true)
theorem zuj (kn:Kn) (w:Bys):findKey .str (str w) (knE kn)=some ((wn kn w).map Value.bool):=by
 rw [knE,zrh (fun b=>Value.bool b),zh7,Option.map_map];rfl
theorem zrz (w:Bys):∀rc:List Bys,((rc.map fun w=>(w,())).find? fun p=>w==p.1)=if rc.contains w then some (w,()) else none
 | []=>rfl
 | v::r=>by
  rw [ypr,List.find?_cons,List.contains_cons]
  cases hv:(w==v)
  ·simp only [ypz];exact zrz w r
  ·rw [←eq_of_beq hv];simp
theorem yaz (rc:List Bys) (w:Bys):findKey .str (str w) (rcE rc)=some (if rc.contains w then some (.bool true) else none):=by
 rw [rcE,zrh (fun _=>Value.bool true),zrz]
 cases rc.contains w <;> rfl
structure Ch (P:RP) (h:Heap) (q km:Nat) (rm:Value) (n:Nat) (kn:Kn) (rc:List Bys):Prop where
 cq:h[q]?=some (.cells [pt P.r,.map (some km),rm,.int .i64 (n:Int)] 0 false)
 ck:h[km]?=some (.map (knE kn))
 cr:(rm=.map none∧rc=[])∨∃b,rm=.map (some b)∧h[b]?=some (.map (rcE rc))
structure Kp (P:RP) (S:Nat→Prop) (h h':Heap):Prop where
 keep:∀(b:Nat) (o:AObj),h[b]?=some o→¬S b→b≠P.r→h'[b]?=some o
 le:h.length≤h'.length
theorem Kp.refl (P:RP) (S:Nat→Prop) (h:Heap):Kp P S h h:=⟨fun _ _ e _ _=>e,yoz _⟩
theorem Kp.trans {P:RP} {S S':Nat→Prop} {h h' h'':Heap} (a:Kp P S h h') (b:Kp P S' h' h''):Kp P (fun z=>S z∨S' z) h h'':=
 ⟨fun x o e n1 n2=>b.keep x o (a.keep x o e (fun hh=>n1 (.inl hh)) n2) (fun hh=>n1 (.inr hh)) n2,yqf a.le b.le⟩
theorem Kp.weak {P:RP} {S S':Nat→Prop} {h h':Heap} (a:Kp P S h h') (hs:∀z,S z→S' z):Kp P S' h h':=⟨fun b o e n1 n2=>a.keep b o e (fun hh=>n1 (hs b hh)) n2,a.le⟩
theorem Kp.add (P:RP) (S:Nat→Prop) (h L:Heap):Kp P S h (h++L):=⟨fun b o e _ _=>zm L e,by simp⟩
theorem Mv.kp {P:RP} {h h':Heap} (m:Mv P h h') (hc:∀o,h[P.c]?=some o→h'[P.c]?=some o):Kp P (fun _=>False) h h':=⟨fun b o e _ n2=>by
 by_cases hb:b=P.c
 ·subst hb;exact hc o e
 ·exact m.keep b o e n2 hb,m.le⟩
structure Cl (P:RP) (hb:Heap) (q km:Nat) (rm:Value) (S:Nat→Prop):Prop where
 lo:∀z,S z→hb.length≤z
 q:¬S q
 k:¬S km
 r:∀b,rm=.map (some b)→¬S b
theorem Cl.weak {P:RP} {hb:Heap} {q km:Nat} {rm:Value} {S S':Nat→Prop} (c:Cl P hb q km rm S) (hs:∀z,S' z→S z):Cl P hb q km rm S':=
 ⟨fun z hz=>c.lo z (hs z hz),fun h=>c.q (hs _ h),fun h=>c.k (hs _ h),fun b hb h=>c.r b hb (hs _ h)⟩
theorem Ch.kp {P:RP} {h h':Heap} {q km n i d x a:Nat} {rm:Value} {kn:Kn} {rc:List Bys} {S:Nat→Prop} (c:Ch P h q km rm n kn rc) (e:Rd P h i d x a) (k:Kp P S h h') (hq:¬S q) (hk:¬S km) (hr:∀b,rm=.map (some b)→¬S b):Ch P h' q km rm n kn rc:=by
 have n1:q≠P.r:=by
  rintro rfl
  have:=e.hr.symm.trans c.cq
  simp at this
 have n2:km≠P.r:=by
  rintro rfl
  have:=e.hr.symm.trans c.ck
  simp at this
 refine ⟨k.keep _ _ c.cq hq n1,k.keep _ _ c.ck hk n2,?_⟩
 rcases c.cr with h1 | ⟨b,h1,h2⟩
 ·exact .inl h1
 ·refine .inr ⟨b,h1,k.keep _ _ h2 (hr b h1) ?_⟩
  rintro rfl
  have:=e.hr.symm.trans h2
  simp at this
section
variable {P:RP} {h:Heap} {i d x a q bb:Nat} {km rm nn:Value}
theorem xm:ve .ptr (.pointer none) (.pointer none)=some true:=rfl
theorem zj (p:Addr):ve .ptr (.pointer (some p)) (.pointer none)=some false:=rfl
set_option maxRecDepth 10000 in
theorem zhi (e:Rd P h i d x a) (rt:Bool):DF FF yh [pt q,nilP,.bool rt] h=some (tup [],h):=by
 have:∃v h',DF FF yh [pt q,nilP,.bool rt] h=some (v,h')∧(v=tup []∧h'=h):=by
  refine yb va ?_
  simp only [zp,zi,yor,yos,ypa,yz,ze,zf,laid,xm,zl,ze,kv,ym3,pkA,pkB]
  exact ⟨trivial,trivial⟩
 obtain ⟨v,h',r,rfl,rfl⟩:=this
 exact r
set_option maxRecDepth 10000 in
theorem zx3 (e:Rd P h i d x a) (hx:x≠0) (hq:h[q]?=some (.cells [pt P.r,km,rm,nn] 0 false)) (b:Nat) (rt:Bool):DF FF yh [pt q,pt b,.bool rt] h=some (tup [],h):=by
 have:∃v h',DF FF yh [pt q,pt b,.bool rt] h=some (v,h')∧(v=tup []∧h'=h):=by
  refine yb va ?_
  have rq:∀L j,Heap.read1 (h++L) ⟨q,j,some 0⟩=([pt P.r,km,rm,nn]:List Value)[j]?:=fun L j=>zr (zm L hq)
  simp only [zp,zi,zb,yor,yos,ypa,yz,ze,zf,laid,zj,zl,ze,rq,fz (e.more _) hx,kv,ym3,pkA,pkB]
  exact ⟨trivial,trivial⟩
 obtain ⟨v,h',r,rfl,rfl⟩:=this
 exact r
theorem zr6 {b:Nat} {op w:Bys} {p:Nat} {l r:Value} {s:Bool} (hb:h[b]?=some (.cells (xt op w p l r s) 0 false)):DF FF y3 [pt b,.bool s,pt bb] h=some (tup [],h):=by
 have:∃v h',DF FF y3 [pt b,.bool s,pt bb] h=some (v,h')∧(v=tup []∧h'=h):=by
  refine yb zaa ?_
  have rb:Heap.read1 h ⟨b,5,some 0⟩=some (.bool s):=zr hb
  simp only [fc,zb,yor,yos,zz,yz,zda,rb,bne_self_eq_false,zx,zz,pkA,pkB]
  exact ⟨trivial,trivial⟩
 obtain ⟨v,h',r,rfl,rfl⟩:=this
 exact r
theorem zq3 (e:Rd P h i d 0 a) (hq:h[q]?=some (.cells [pt P.r,km,rm,nn] 0 false)) (hbb:h[bb]?=some (.cells [pt q] 0 false)) {b:Nat} {op w:Bys} {p:Nat} {l r:Value} {s t:Bool} (hb:h[b]?=some (.cells (xt op w p l r s) 0 false)) (hst:(s==t)=false):
  ∃h',DF FF y3 [pt b,.bool t,pt bb] h=some (tup [],h')∧Rd P h' i d 41 p∧Mv P h h'∧h'[P.c]?=h[P.c]?:=by
 have:∃v h',DF FF y3 [pt b,.bool t,pt bb] h=some (v,h')∧(v=tup []∧Rd P h' i d 41 p∧Mv P h h'∧h'[P.c]?=h[P.c]?):=by
  refine yb zaa ?_
  have rb:∀j,Heap.read1 h ⟨b,j,some 0⟩=(xt op w p l r s)[j]?:=fun j=>zr hb
  have rq:∀j,Heap.read1 h ⟨q,j,some 0⟩=([pt P.r,km,rm,nn]:List Value)[j]?:=fun j=>zr hq
  have rbb:Heap.read1 h ⟨bb,0,some 0⟩=some (pt q):=zr hbb
  have n5:(xt op w p l r s)[5]?=some (.bool s):=rfl
  obtain ⟨h',f,e',m⟩:=zl7 e 41 p (by omega)
  simp only [yov] at f
  simp only [fc,zb,yor,yos,yo4,yz,zda,rb,n5,b6,hst,rq,rbb,f,zx,pkA,pkB]
  rw [e.fin e' m (tup []) (.inr (.inr (.inl (by omega))))]
  exact ⟨trivial,e',m,by rw [e'.hc,e.hc]⟩
 obtain ⟨v,h',r,rfl,e',m,hc⟩:=this
 exact ⟨h',r,e',m,hc⟩
theorem ykr (e:Rd P h i d x a) (hx:x≠0) (hq:h[q]?=some (.cells [pt P.r,km,rm,nn] 0 false)) (hbb:h[bb]?=some (.cells [pt q] 0 false)) {b:Nat} {op w:Bys} {p:Nat} {l r:Value} {s:Bool} (t:Bool) (hb:h[b]?=some (.cells (xt op w p l r s) 0 false)):
  DF FF y3 [pt b,.bool t,pt bb] h=some (tup [],h):=by
 cases hst:(s==t)
 ·have:∃v h',DF FF y3 [pt b,.bool t,pt bb] h=some (v,h')∧(v=tup []∧h'=h):=by
   refine yb zaa ?_
   have rb:∀j,Heap.read1 h ⟨b,j,some 0⟩=(xt op w p l r s)[j]?:=fun j=>zr hb
   have rq:∀j,Heap.read1 h ⟨q,j,some 0⟩=([pt P.r,km,rm,nn]:List Value)[j]?:=fun j=>zr hq
   have rbb:Heap.read1 h ⟨bb,0,some 0⟩=some (pt q):=zr hbb
   have n5:(xt op w p l r s)[5]?=some (.bool s):=rfl
   simp only [fc,zb,yor,yos,zz,yo4,yz,zda,rb,n5,b6,hst,rq,rbb,zn2 e hx,zx,zz,pkA,pkB]
   exact ⟨trivial,trivial⟩
  obtain ⟨v,h',r,rfl,rfl⟩:=this
  exact r
 ·rw [←eq_of_beq hst];exact zr6 hb
end
theorem zp9 {e:Nat}:∀{k:Nat} {ts r:List Tok} {gs:List Gv},bo e k ts=.ok gs r→r.length≤ts.length∧gs.length≤ts.length
 | 0,ts,r,gs,h=>by rw [bo] at h;cases h;simp
 | k+1,ts,r,gs,h=>by
  rw [bo] at h
  cases hg:znc e ts with
  | bad c a=>rw [hg] at h;cases h
  | ok g r1=>
   have h1:=zhn hg
   rw [hg] at h
   cases r1 with
   | nil=>cases h;simp at h1 ⊢;omega
   | cons t r1=>
    simp only at h
    split at h
    ·cases hr:bo e k r1 with
     | bad c a=>rw [hr] at h;cases h
     | ok gs' r2=>
      rw [hr] at h
      obtain ⟨a,b⟩:=zp9 hr
      simp only [ypb] at h1
      cases h
      simp only [ypb];omega
    ·cases h;simp only [ypb,List.length_nil] at h1 ⊢;omega
theorem znj {e:Nat} {rc:Bool} {ts r:List Tok} {s:Stm} (h:zi8 e rc ts=.ok s r):r.length≤ts.length∧∀rc' gs,s=.lets rc' gs→gs.length≤ts.length:=by
 unfold zi8 at h
 split at h
 ·cases h
 ·rename_i gs r' hg
  cases h
  obtain ⟨a,b⟩:=zp9 hg
  exact ⟨a,fun rc' gs' hs=>by cases hs;exact b⟩
theorem zli {e:Nat} {k:Ck} {ts r:List Tok} {s:Stm} (h:zc7 e k ts=.ok s r):r.length≤ts.length∧∀rc' gs,s≠ .lets rc' gs:=by
 unfold zc7 at h
 split at h
 ·cases h
 ·rename_i x hx
  cases h;exact ⟨by simp,fun _ _=>by simp⟩
 ·rename_i x t r1 hx
  have h1:=zdz _ _ _ _ _ hx
  simp only [ypb] at h1
  split at h
  ·split at h
   ·cases h
   ·rename_i w r2 hn
    cases h
    cases r1 with
    | nil=>cases hn
    | cons t2 r2'=>
     rw [zpo] at hn
     split at hn
     ·cases hn;exact ⟨by simp at h1 ⊢;omega,fun _ _=>by simp⟩
     ·cases hn
  ·cases h;exact ⟨by simp;omega,fun _ _=>by simp⟩
theorem zf3 {e:Nat} {t:Tok} {ts r:List Tok} {s:Stm} (h:ze1 e (t::ts)=.ok s r):r.length≤ts.length∧∀rc' gs,s=.lets rc' gs→gs.length≤ts.length:=by
 rw [ze1] at h
 split at h
 ·cases ts with
  | nil=>exact znj (rc:=false) h
  | cons t2 r2=>
   rw [letP] at h
   split at h
   ·obtain ⟨a,b⟩:=znj h
    exact ⟨by simp;omega,fun rc gs hs=>by have:=b rc gs hs;simp;omega⟩
   ·exact znj h
 split at h
 ·obtain ⟨a,b⟩:=zli h;exact ⟨a,fun rc gs hs=>absurd hs (b rc gs)⟩
 split at h
 ·obtain ⟨a,b⟩:=zli h;exact ⟨a,fun rc gs hs=>absurd hs (b rc gs)⟩
 split at h
 ·obtain ⟨a,b⟩:=zli h;exact ⟨a,fun rc gs hs=>absurd hs (b rc gs)⟩
 ·cases h
theorem zm9 (e:Nat):∀k k' ts,ts.length≤k→ts.length≤k'→jw e k ts=jw e k' ts
 | 0,k',ts,h,h'=>by
  have:ts=[]:=ypj (by omega)
  subst this
  cases k' <;> rfl
 | k+1,0,ts,h,h'=>by
  have:ts=[]:=ypj (by omega)
  subst this;rfl
 | k+1,k'+1,[],h,h'=>rfl
 | k+1,k'+1,t::ts,h,h'=>by
  simp only [ypb] at h h'
  rw [jw,jw]
  cases hs:ze1 e (t::ts) with
  | bad c a=>rfl
  | ok s r=>
   have:=(zf3 hs).1
   simp only
   rw [zm9 e k k' r (by omega) (by omega)]
theorem zyc {P:RP} {k:Nat} (hk:k<P.L.length):jw P.en P.L.length (P.L.drop k)=match ze1 P.en (P.L.drop k) with
  | .bad c a=>.bad c a
  | .ok s r=>match jw P.en P.L.length r with
   | .bad c a=>.bad c a
   | .ok l r2=>.ok (s::l) r2:=by
 obtain ⟨q,hq⟩:∃q,P.L.length=q+1:=⟨P.L.length - 1,by omega⟩
 rw [jx hk]
 rw [show jw P.en P.L.length (zd P k::P.L.drop (k+1))=jw P.en (q+1) (zd P k::P.L.drop (k+1)) by rw [←hq],jw]
 cases hs:ze1 P.en (zd P k::P.L.drop (k+1)) with
 | bad c a=>rfl
 | ok s r=>
  have:=(zf3 hs).1
  simp only [ypf] at this
  simp only
  rw [zm9 P.en q P.L.length r (by omega) (by omega)]
  skip
theorem zyw {s:List UInt8} {c:Nat} (h:zgv s=.bad c):c≠0:=by
 cases s with
 | nil=>cases h;decide
 | cons b s=>
  rw [zgv] at h
  split at h
  ·split at h
   ·cases h
   ·cases h;decide
  ·split at h
   ·cases h
   ·split at h
    ·cases h
    ·split at h
     ·cases h
     ·cases h;decide
theorem zk3:∀{f:Nat} {s:List UInt8} {a c p:Nat},zik f s a=.bad c p→c≠0
 | 0,s,a,c,p,h=>by cases h
 | f+1,s,a,c,p,h=>by
  rw [zik] at h
  split at h
  ·cases h
  ·split at h
   ·exact zk3 h
   ·cases h;decide
   ·split at h
    ·rename_i kd k n hw
     cases hq:zik f (s.drop k) (a+k) with
     | ok l=>rw [hq] at h;cases h
     | bad c' p'=>rw [hq] at h;cases h;exact zk3 hq
    ·rename_i c' hw
     cases h;exact zyw hw
theorem zpj {s:List UInt8} {a c p:Nat} (h:j6 s a=.bad c p):c≠0:=zk3 h
theorem yhu {s:List UInt8} {kd k a:Nat} {n:Int} (h:zgv s=.word kd k n):zt5 ⟨kd,s.take k,n,a⟩:=by
 have hp:=zfc h
 cases s with
 | nil=>cases h
 | cons c s=>
  have ht:∀k,1≤k→(c::s).take k=c::s.take (k - 1):=fun k hk=>by
   obtain ⟨m,rfl⟩:∃m,k=m+1:=⟨k - 1,by omega⟩
   rfl
  rw [zgv] at h
  split at h
  ·split at h
   ·cases h;exact .inr (.inl rfl)
   ·cases h
  ·split at h
   ·rename_i hl
    cases h
    exact .inl ⟨rfl,c,_,ht _ hp.1,hl⟩
   ·split at h
    ·rename_i hm
     cases h
     refine .inr (.inr ⟨rfl,c,_,ht _ hp.1,?_⟩)
     rcases Bool.or_eq_true_iff.1 hm with hm | hm
     ·have:c=47:=by simp [List.isPrefixOf] at hm;exact hm.1.symm
      rw [this];rfl
     ·have:c=92:=by simp [List.isPrefixOf] at hm;exact hm.1.symm
      rw [this];rfl
    ·split at h
     ·rename_i hm
      cases h
      exact .inr (.inr ⟨rfl,c,_,ht _ hp.1,hm⟩)
     ·cases h
theorem zrp:∀{f:Nat} {s:List UInt8} {a:Nat} {l:List Tok},zik f s a=.ok l→(∀t∈l,zt5 t)∧l.length≤f
 | 0,s,a,l,h=>by cases h;simp
 | f+1,s,a,l,h=>by
  rw [zik] at h
  split at h
  ·cases h;simp
  ·split at h
   ·obtain ⟨x,y⟩:=zrp h;exact ⟨x,by omega⟩
   ·cases h
   ·split at h
    ·rename_i kd k n hw
     cases hq:zik f (s.drop k) (a+k) with
     | ok m=>
      rw [hq] at h
      obtain ⟨x,y⟩:=zrp hq
      cases h
      refine ⟨fun t ht=> ?_,by simp;omega⟩
      rcases ype.1 ht with ht | ht
      ·simp at ht;subst ht;exact yhu hw
      ·exact x t ht
     | bad c' p'=>rw [hq] at h;cases h
    ·cases h
theorem zw4 {s:List UInt8} {a:Nat} {l:List Tok} (h:j6 s a=.ok l):(∀t∈l,zt5 t)∧l.length≤s.length:=zrp h
theorem Pre.of {h H:Heap} (hl:h.length≤H.length) (hk:∀(b:Nat) (o:AObj),h[b]?=some o→H[b]?=some o):Pre h H:=by
 refine ⟨H.drop h.length,?_⟩
 have:H.take h.length=h:=by
  apply List.ext_getElem?
  intro b
  rw [yp0]
  by_cases hb:b<h.length
  ·rw [if_pos hb]
   have:=hk b h[b] (yow hb)
   rw [this,yow hb]
  ·rw [if_neg hb,ypv (by omega)]
 rw [←this,ypt,Nat.min_eq_left (by omega),List.take_append_drop]
def zw (d:Bys×Bool):List Value:=[str d.1,.bool d.2]
theorem zr8 {h:Heap} {s:Value} {rows:List (List Value)} (e:Sl h s 4 rows) (hr:rows.length≤1000000):∃s' h',DF FF wi [s] h=some (s',h')∧Own h h' s' 4 rows∧Pre h h':=by
 have:∃s' h',DF FF wi [s] h=some (s',h')∧(Own h h' s' 4 rows∧Pre h h'):=by
  refine yb zbt ?_
  rcases e with ⟨⟨rfl,rfl⟩ | ⟨b,o,v,rfl,hrd⟩,hc⟩
  ·simp only [qq,yos,zz,zy,ypa,yz,zf,nils,show ve .slice (.slice none 0 0) (.slice none 0 0)=some true from rfl,zl,zy,zz,pkA,pkB]
   exact ⟨Own.nil _ _ _,Pre.refl h⟩
  ·have hl:=k8 rows 4 hc
   have hs:za5 (h++[AObj.cells [] 0 false]) 4 (.slice (some ⟨b,o,some v⟩) rows.length 4)=some (rows.flatten,rows.length):=zq8 _ (zkm h _ hrd)
   have ha:=zr7 h (L:=[]) (size:=4) (bytes:=40) (m:=0) (n:=rows.length) (ver:=0) (vals:=[]) (ys:=rows.flatten) (by simp) (by unfold wy;omega)
   simp only [List.nil_append,Nat.zero_add] at ha
   simp only [qq,yor,yos,slc,zy,ypa,yz,zf,show ve .slice (.slice (some ⟨b,o,some v⟩) rows.length 4) (.slice none 0 0)=some false from rfl,zl,hs,ha,zy,pkA,pkB]
   rw [zfm h rfl]
   exact ⟨⟨.inr ⟨h.length,1,yoz _,rfl,by simp⟩,hc⟩,Pre.more (Pre.refl h) _⟩
 obtain ⟨s',h',q,a,b⟩:=this
 exact ⟨s',h',q,a,b⟩
theorem ynn {h:Heap} {s:Value} {rows:List (List Value)} (e:Sl h s 4 rows) (hr:rows.length≤1000000):∃s' c h',DF FF zh5 [s] h=some (pt c,h')∧h'[c]?=some (.cells [s',.int .i64 0] 0 false)∧Own h h' s' 4 rows∧blk s'≠some c∧h.length≤c∧Pre h h':=by
 have:∃v h',DF FF zh5 [s] h=some (v,h')∧∃s' c,(v=pt c∧h'[c]?=some (.cells [s',.int .i64 0] 0 false)∧Own h h' s' 4 rows∧blk s'≠some c∧h.length≤c∧Pre h h'):=by
  refine yb zy6 ?_
  obtain ⟨s',h1,q,a,p⟩:=zr8 e hr
  obtain ⟨x,y,z,rfl⟩:=a.slice
  simp only [zp7,yor,yos,zy,zg,ze,q,zg,ze,zy,jn,pkA,pkB]
  exact ⟨_,_,rfl,by simp,a.more _,fun h=>by have:=(a.lt h).2;omega,p.le,p.more _⟩
 obtain ⟨v,h',q,s',c,rfl,g⟩:=this
 exact ⟨s',c,h',q,g⟩
structure M3 (P:RP) (mb:Nat) (h h':Heap):Prop where
 keep:∀(b:Nat) (o:AObj),h[b]?=some o→b≠P.r→b≠P.c→b≠mb→h'[b]?=some o
 le:h.length≤h'.length
theorem M3.refl (P:RP) (mb:Nat) (h:Heap):M3 P mb h h:=⟨fun _ _ e _ _ _=>e,yoz _⟩
theorem yer (z0 z1 z2 z3:Value) {row:List Value} (h:row.length=4):yp [z0,z1,z2,z3] [(0,4,agg row)]=some row:=by
 match row,h with
 | [a,b,c,d],_=>exact ba z0 z1 z2 z3 a b c d
def PaS (P:RP) (mb:Nat) (H4:Heap) (R:PR (List Stm)) (m:Nat) (K:Heap):Prop:=
 (∃k ss T acc rows,m=P.L.length - k+1∧Rd P K k 0 0 0∧K[mb]?=some (.cells [nils,ss] 0 false)∧Own [] K ss 4 rows∧StsP K T rows acc∧(∀z,T z→mb<z∧z<K.length∧blk ss≠some z)∧(∀b,blk ss=some b→mb<b)∧M3 P mb H4 K∧acc.length≤k∧
  (∀rc gs,Stm.lets rc gs∈acc→gs.length≤8192)∧(match jw P.en P.L.length (P.L.drop k) with | .bad c a=>R=.bad c a | .ok l r=>R=.ok (acc++l) r))∨
 (∃k c a x y z rows,m=0∧Rd P K k 0 c a∧c≠0∧R=.bad c a∧K[mb]?=some (.cells [nils,.slice x y z] 0 false)∧M3 P mb H4 K∧Own [] K (.slice x y z) 4 rows∧(∀b,blk (.slice x y z)=some b→mb<b)∧rows.length≤8193)
def PaI (P:RP) (mb:Nat) (H4:Heap) (ns:Value) (R:PR (List Stm)) (m:Nat) (st:St):Prop:=∃K,(∃j:Nat→Value,st=⟨[j 0,ns,j 2,j 3,j 4,j 5,j 6,j 7,j 8,j 9,pt P.r,pt mb,j 12,j 13,j 14,j 15,j 16,j 17,j 18,j 19,j 20,j 21,j 22,j 23,j 24,j 25,j 26,j 27,j 28,j 29,j 30,j 31,j 32,j 33,j 34,j 35,j 36,j 37,j 38,j 39,j 40,j 41,j 42,j 43,j 44,j 45,j 46,j 47,j 48,j 49,j 50,j 51,j 52,j 53,j 54,j 55,j 56,j 57,j 58,j 59,j 60,j 61,j 62,j 63,j 64,j 65,j 66,j 67,j 68,j 69,j 70,j 71,j 72,j 73,j 74,j 75,j 76,j 77,j 78,j 79,j 80,j 81,j 82,j 83,j 84,j 85,j 86,j 87,j 88,j 89,j 90,j 91,j 92,j 93,j 94,j 95,j 96,j 97,j 98,j 99,j 100,j 101,j 102,j 103,j 104,j 105,j 106,j 107,j 108,j 109,j 110,j 111,j 112,j 113,j 114,j 115,j 116,j 117,j 118,j 119,j 120,j 121,j 122,j 123,j 124,j 125,j 126,j 127,j 128,j 129,j 130],K⟩)∧PaS P mb H4 R m K
theorem yg6 {P:RP} {mb:Nat} {H4 K:Heap} {R:PR (List Stm)} {k:Nat} {ss:Value} {T:Nat→Prop} {acc:List Stm} {rows:List (List Value)} (e4:Rd P H4 0 0 0 0) (hl4:H4.length=mb+1) (hmr:mb≠P.r) (hmc:mb≠P.c) (hwm:blk P.ws≠some mb) (hcm:blk P.cs≠some mb) (hk:k<P.L.length) (eK:Rd P K k 0 0 0) (hm:K[mb]?=some (.cells [nils,ss] 0 false)) (own:Own [] K ss 4 rows) (st:StsP K T rows acc) (hT:∀z,T z→mb<z∧z<K.length∧blk ss≠some z) (hb:∀b,blk ss=some b→mb<b) (m4:M3 P mb H4 K) (hacc:acc.length≤k)
  (hgs:∀rc gs,Stm.lets rc gs∈acc→gs.length≤8192) (hR:(match jw P.en P.L.length (P.L.drop k) with | .bad c a=>R=.bad c a | .ok l r=>R=.ok (acc++l) r)):
  ∃row K1 x y z K2,row.length=4∧DF FF gq [pt P.r] K=some (agg row,K1)∧Heap.read1 K1 ⟨mb,1,some 0⟩=some ss∧
   wu (K1++[.cells row 0 false]) 4 64 ss (za5 (K1++[.cells row 0 false]) 4 (.slice (some ⟨K1.length,0,some 0⟩) 1 4))=some (.slice x y z,K2)∧Heap.write1 K2 ⟨mb,1,some 0⟩ (.slice x y z)=some (K2.set mb (.cells [nils,.slice x y z] 0 false))∧
   ∃m',m'<P.L.length - k+1∧PaS P mb H4 R m' (K2.set mb (.cells [nils,.slice x y z] 0 false)):=by
 have hL:=P.len
 have lr:=e4.lr;have lc:=e4.lc
 obtain ⟨v,K1,q1,x1⟩:=zug eK hk
 have m1:Mv P K K1:=by
  cases hx:ze1 P.en (P.L.drop k) with
  | ok s r=>rw [hx] at x1;obtain ⟨_,_,_,_,_,_,m⟩:=x1;exact m
  | bad c a=>rw [hx] at x1;obtain ⟨_,_,_,_,_,m⟩:=x1;exact m
 obtain ⟨row,hrow,hr4⟩:∃row,v=agg row∧row.length=4:=by
  cases hx:ze1 P.en (P.L.drop k) with
  | ok s r=>rw [hx] at x1;obtain ⟨row,_,hv,_,_,st,_⟩:=x1;exact ⟨row,hv,st.len⟩
  | bad c a=>rw [hx] at x1;obtain ⟨row,hv,h4,_⟩:=x1;exact ⟨row,hv,h4⟩
 subst hrow
 have hm1:=m1.keep _ _ hm hmr hmc
 have own1:Own [] K1 ss 4 rows:=own.keep fun b hb' o ho=>m1.keep b o ho (by have:=hb b hb';omega) (by have:=hb b hb';omega)
 obtain ⟨ss',K2,p1,p2,p3,p4,p5,p6⟩:=own1.push (⟨_,rfl⟩:Pre [] K1) (row:=row) (bytes:=64) hr4 (by rw [(st.len).1];unfold wy;omega)
 obtain ⟨x,y,z,rfl⟩:=p2.slice
 have hbm:blk ss≠some mb:=fun h=>by have:=hb _ h;omega
 have hm2:K2[mb]?=some (.cells [nils,ss] 0 false):=p5 _ _ hm1 hbm
 have lm2:=(yoq.1 hm2).1
 have blk2:∀b,blk (.slice x y z)=some b→mb<b:=fun b hb'=>by
  rcases p6 with h | ⟨j,h,h'⟩
  ·rw [h] at hb';exact hb b hb'
  ·rw [h] at hb';cases hb';have:=(yoq.1 hm1).1;omega
 have m2:M3 P mb H4 (K2.set mb (.cells [nils,.slice x y z] 0 false)):=⟨fun b o ho n1 n2 n3=>by
  have hlt:=(yoq.1 ho).1
  rw [you (yps n3)]
  exact p5 b o (m1.keep b o (m4.keep b o ho n1 n2 n3) n1 n2) fun h=>by have:=hb b h;omega,by rw [yo3];have:=m4.le;have:=m1.le;omega⟩
 have rd2:∀k' x' a',Rd P K1 k' 0 x' a'→Rd P (K2.set mb (.cells [nils,.slice x y z] 0 false)) k' 0 x' a':=fun k' x' a' e=>by
  have kp:∀b o,b<H4.length→b≠mb→K1[b]?=some o→(K2.set mb (.cells [nils,.slice x y z] 0 false))[b]?=some o:=fun b o hlt n3 ho=>by
   rw [you (yps n3)];exact p5 b o ho fun h=>by have:=hb b h;omega
  have wlt:∀b,blk P.ws=some b→b<H4.length∧b≠mb:=fun b hb'=>⟨e4.sw.lt hb',by rintro rfl;exact hwm hb'⟩
  have clt:∀b,blk P.cs=some b→b<H4.length∧b≠mb:=fun b hb'=>⟨e4.sc.lt hb',by rintro rfl;exact hcm hb'⟩
  exact ⟨kp _ _ lr (yps hmr) e.hr,kp _ _ lc (yps hmc) e.hc,e.sw.keep fun b hb' o ho=>kp b o (wlt b hb').1 (wlt b hb').2 ho,e.sc.keep fun b hb' o ho=>kp b o (clt b hb').1 (clt b hb').2 ho,e.le⟩
 refine ⟨row,K1,x,y,z,K2,hr4,q1,zr hm1,p1,by rw [jo hm2 (by simp)];rfl,?_⟩
 rw [zyc hk] at hR
 cases hx:ze1 P.en (P.L.drop k) with
 | bad c a=>
  rw [hx] at x1 hR
  obtain ⟨_,_,_,hc,⟨k',e1⟩,_⟩:=x1
  exact ⟨0,by omega,.inr ⟨k',c,a,x,y,z,rows++[row],rfl,rd2 _ _ _ e1,hc,hR,by rw [yox lm2],m2,p2.keep fun b hb' o ho=>by rw [you (by have:=blk2 b hb';omega)];exact ho,blk2,by rw [yo8,(st.len).1];simp;omega⟩⟩
 | ok s r=>
  rw [hx] at x1 hR
  obtain ⟨row',k',hrr,rfl,e1,sp,_⟩:=x1
  have hrr:row=row':=by simpa [agg] using hrr
  subst hrr
  have hsh:=hx
  rw [jx hk] at hsh
  obtain ⟨s1,s2⟩:=zf3 hsh
  simp only [ypf] at s1 s2
  have kle:=e1.le
  have hlK:=(yoq.1 hm).1
  refine ⟨P.L.length - k'+1,by omega,.inl ⟨k',.slice x y z,fun w=>T w∨Iv K.length K1.length w,acc++[s],rows++[row],rfl,rd2 _ _ _ e1,by rw [yox lm2],p2.keep fun b hb' o ho=>by rw [you (by have:=blk2 b hb';omega)];exact ho,?_,?_,blk2,m2,by simp;omega,?_,?_⟩⟩
  ·refine StsP.snoc (sp.keep fun w o hw ho=> ?_) (st.keep fun w o hw ho=> ?_) fun w hw hI=>by have:=(hT w hw).2.1;have:=hI.1;omega
   ·rw [you (by have:=hw.1;omega)]
    exact p5 w o ho fun h=>by have:=(own.lt h).2;have:=hw.1;omega
   ·obtain ⟨t1,t2,t3⟩:=hT w hw
    rw [you (by omega)]
    exact p5 w o (m1.keep w o ho (by omega) (by omega)) t3
  ·intro w hw
   rw [yo3]
   have hlw:w<K1.length∧mb<w∧blk ss≠some w:=by
    rcases hw with hw | hw
    ·obtain ⟨t1,t2,t3⟩:=hT w hw;have:=m1.le;exact ⟨by omega,t1,t3⟩
    ·have:=hw.1;have:=hw.2;exact ⟨by omega,by omega,fun h=>by have:=(own.lt h).2;omega⟩
   refine ⟨hlw.2.1,by omega,fun h=> ?_⟩
   rcases p6 with h6 | ⟨j,h6,h7⟩
   ·rw [h6] at h;exact hlw.2.2 h
   ·rw [h6] at h;cases h;omega
  ·intro rc gs hmem
   rcases ype.1 hmem with hmem | hmem
   ·exact hgs rc gs hmem
   ·simp at hmem;have:=s2 rc gs hmem.symm;omega
  ·simp only at hR
   cases hq:jw P.en P.L.length (P.L.drop k') with
   | bad c a=>rw [hq] at hR;exact hR
   | ok l2 r2=>rw [hq] at hR;simp only at hR ⊢;rw [hR];simp
theorem zj5 {F:Funcs} {b:zal} {Q:AEx→St→Prop} (id:Nat) (I:Nat→St→Prop) (P:St→Prop) (step:∀m s,I m s→WPD (D F b s) (yec I m (outQ id P))) (m:Nat) (s:St) (h0:I m s) (hq:∀s,P s→Q (.exit id) s):WPD (D F (.loop b) s) Q:=
 (zgx I step m s h0).mono fun x s ⟨hx,hp⟩=>by subst hx;exact hq s hp
structure PaE (P:RP) (mb:Nat) (H4 K:Heap) (R:PR (List Stm)) (k x a:Nat) (ss:Value) (rows:List (List Value)):Prop where
 rd:Rd P K k 0 x a
 mo:K[mb]?=some (.cells [nils,ss] 0 false)
 own:Own [] K ss 4 rows
 lo:∀b,blk ss=some b→mb<b
 m3:M3 P mb H4 K
 rl:rows.length≤8193
 ok:x=0→a=0∧∃T acc,R=.ok acc []∧StsP K T rows acc∧(∀z,T z→mb<z∧z<K.length∧blk ss≠some z)∧(∀rc gs,Stm.lets rc gs∈acc→gs.length≤8192)∧acc.length≤8192
 bad:x≠0→R=.bad x a
def PaO (P:RP) (mb:Nat) (H4:Heap) (ns:Value) (R:PR (List Stm)) (st:St):Prop:=∃K,(∃j:Nat→Value,st=⟨[j 0,ns,j 2,j 3,j 4,j 5,j 6,j 7,j 8,j 9,pt P.r,pt mb,j 12,j 13,j 14,j 15,j 16,j 17,j 18,j 19,j 20,j 21,j 22,j 23,j 24,j 25,j 26,j 27,j 28,j 29,j 30,j 31,j 32,j 33,j 34,j 35,j 36,j 37,j 38,j 39,j 40,j 41,j 42,j 43,j 44,j 45,j 46,j 47,j 48,j 49,j 50,j 51,j 52,j 53,j 54,j 55,j 56,j 57,j 58,j 59,j 60,j 61,j 62,j 63,j 64,j 65,j 66,j 67,j 68,j 69,j 70,j 71,j 72,j 73,j 74,j 75,j 76,j 77,j 78,j 79,j 80,j 81,j 82,j 83,j 84,j 85,j 86,j 87,j 88,j 89,j 90,j 91,j 92,j 93,j 94,j 95,j 96,j 97,j 98,j 99,j 100,j 101,j 102,j 103,j 104,j 105,j 106,j 107,j 108,j 109,j 110,j 111,j 112,j 113,j 114,j 115,j 116,j 117,j 118,j 119,j 120,j 121,j 122,j 123,j 124,j 125,j 126,j 127,j 128,j 129,j 130],K⟩)∧∃k x a ss rows,PaE P mb H4 K R k x a ss rows
def ChkR (P:RP) (i:Nat) (S:Nat→Prop) (v:Value) (pl:Nat) (h':Heap):CR Ex→Prop
 | .ok e'=>TreeP h' S v e'∧e'.pl=pl∧Rd P h' i 0 0 0
 | .bad c a=>c≠0∧(∃e',TreeP h' S v e'∧e'.pl=pl)∧Rd P h' i 0 c a
def zg3 (P:RP) (kn:Kn) (rc:List Bys) (rt:Bool) (e:Ex):Prop:=∀(hb h:Heap) (i0 i q km n:Nat) (rm:Value) (S:Nat→Prop) (v:Value),Rd P hb i0 0 0 0→Rd P h i 0 0 0→Ch P h q km rm n kn rc→TreeP h S v e→Cl P hb q km rm S→(∀z,
 S z→z<h.length)→∃h',DF FF yh [pt q,v,.bool rt] h=some (tup [],h')∧ChkR P i S v e.pl h' (chkE kn rc rt e)∧Kp P S h h'
theorem ChkR.fin {P:RP} {i pl:Nat} {S:Nat→Prop} {v:Value} {h H:Heap} {R:CR Ex} (eh:Rd P h i 0 0 0) (k:Kp P S h H) (hS:∀z,S z→z<h.length) (r:ChkR P i S v pl H R) (w:Value):ChkR P i S v pl (AM.finish h w H) R∧Kp P S h (AM.finish h w H):=by
 rcases j5 h H w with hf | ⟨hf,hk⟩
 ·rw [hf];exact ⟨r,k⟩
 ·rw [hf]
  have g:∀b o,b<h.length→H[b]?=some o→h[b]?=some o:=fun b o hb ho=>by
   rw [←hk,yp0,if_pos hb];exact ho
  have rd:∀x a,Rd P H i 0 x a→Rd P h i 0 x a:=fun x a e=>
   ⟨g _ _ eh.lr e.hr,g _ _ eh.lc e.hc,eh.sw,eh.sc,eh.le⟩
  refine ⟨?_,Kp.refl P S h⟩
  cases R with
  | ok e'=>exact ⟨r.1.keep fun b o hb ho=>g b o (hS b hb) ho,r.2.1,rd _ _ r.2.2⟩
  | bad c a=>
   obtain ⟨hc,⟨e',t,hp⟩,e⟩:=r
   exact ⟨hc,⟨e',t.keep fun b o hb ho=>g b o (hS b hb) ho,hp⟩,rd _ _ e⟩
theorem vz (op w:Bys) (a:Nat) (l r:Value) (s:Bool):(xt op w a l r s)[0]?=some (str op):=rfl
theorem zje (op w:Bys) (a:Nat) (l r:Value) (s:Bool):(xt op w a l r s)[1]?=some (str w):=rfl
theorem vk (op w:Bys) (a:Nat) (l r:Value) (s:Bool):(xt op w a l r s)[3]?=some l:=rfl
theorem vh (op w:Bys) (a:Nat) (l r:Value) (s:Bool):(xt op w a l r s)[4]?=some r:=rfl
theorem zc1 (op w:Bys) (a:Nat) (l r:Value) (s:Bool):(xt op w a l r s)[5]?=some (.bool s):=rfl
theorem zlc (op w:Bys) (a:Nat) (l r:Value) (s t:Bool):(xt op w a l r s).set 5 (.bool t)=xt op w a l r t:=rfl
theorem Rd.node {P:RP} {hb h:Heap} {i i' x a x' a' d d' b:Nat} (e0:Rd P hb i d x a) (e:Rd P h i' d' x' a') (hlb:hb.length≤b) (o:AObj):Rd P (h.set b o) i' d' x' a':=e0.upd e hlb o
theorem Kp.set {P:RP} {S:Nat→Prop} {h h':Heap} {b:Nat} (k:Kp P S h h') (hb:S b) (o:AObj):Kp P S h (h'.set b o):=
 ⟨fun c o' ho n1 n2=>by rw [you (by rintro rfl;exact n1 hb)];exact k.keep c o' ho n1 n2,by rw [yo3];exact k.le⟩
set_option maxHeartbeats 4000000 in
theorem yao (P:RP) (kn:Kn) (rc:List Bys) (s:Bool) (a:Nat) (w:Bys) (rt:Bool):zg3 P kn rc rt (.name s a w):=by
 intro hb h i0 i q km n rm S v e0 eh ch tr cl hS
 obtain ⟨b,rfl,hbS,hbo⟩:=tr
 have:∃v h',DF FF yh [pt q,pt b,.bool rt] h=some (v,h')∧(v=tup []∧ChkR P i S (pt b) a h' (chkE kn rc rt (.name s a w))∧Kp P S h h'):=by
  refine yb va ?_
  obtain ⟨h0,hh0⟩:∃h0,h0=h++[AObj.cells [pt q] 0 false]:=⟨_,rfl⟩
  have eh0:Rd P h0 i 0 0 0:=by rw [hh0];exact eh.more _
  have k0:Kp P S h h0:=by rw [hh0];exact Kp.add _ _ _ _
  have hbb:h0[h.length]?=some (.cells [pt q] 0 false):=by rw [hh0];simp
  have ch0:=ch.kp eh k0 cl.q cl.k cl.r
  have hn:h0[b]?=some (.cells (xt zhm w a nilP nilP s) 0 false):=by rw [hh0];exact zm _ hbo
  have rb:∀j,Heap.read1 h0 ⟨b,j,some 0⟩=(xt zhm w a nilP nilP s)[j]?:=fun j=>zr hn
  have rq:∀j,Heap.read1 h0 ⟨q,j,some 0⟩=([pt P.r,.map (some km),rm,.int .i64 (n:Int)]:List Value)[j]?:=fun j=>zr ch0.cq
  have rbb:∀j,Heap.read1 h0 ⟨h.length,j,some 0⟩=([pt q]:List Value)[j]?:=fun j=>zr hbb
  have nil1:=fun rt=>zhi (q:=q) eh0 rt
  have lk:=zi2 h0 ch0.ck (.bool false) true (w:=w) (zuj kn w)
  have lr:zqo h0 .str (.bool false) false rm (str w)=some (.bool (rc.contains w),h0):=by
   rcases ch0.cr with ⟨h1,h2⟩ | ⟨b',h1,h2⟩
   ·rw [h1,h2,ygc];rfl
   ·rw [h1]
    rw [zi2 h0 h2 (.bool false) false (w:=w) (yaz rc w)]
    cases rc.contains w <;> rfl
  have wb:∀(K:Heap) (t:Bool),K[b]?=some (.cells (xt zhm w a nilP nilP s) 0 false)→Heap.write1 K ⟨b,5,some 0⟩ (.bool t)=some (K.set b (.cells (xt zhm w a nilP nilP t) 0 false)):=fun K t hK=>by rw [jo hK (by simp [xt]),zlc]
  have fin:∀(K:Heap) (t:Bool) (x p:Nat),Rd P K i 0 x p→Kp P S h K→K[b]?=some (.cells (xt zhm w a nilP nilP s) 0 false)→(x=0→p=0)→∀R,(R=if x=0 then CR.ok (.name t a w) else .bad x p)→ChkR P i S (pt b) a (K.set b (.cells (xt zhm w a nilP nilP t) 0 false)) R∧Kp P S h (K.set b (.cells (xt zhm w a nilP nilP t) 0 false)):=by
   intro K t x p eK kK hK hx R hR
   have hlt:=(yoq.1 hK).1
   have tr:TreeP (K.set b (.cells (xt zhm w a nilP nilP t) 0 false)) S (pt b) (.name t a w):=⟨b,rfl,hbS,yox hlt⟩
   refine ⟨?_,kK.set hbS _⟩
   rw [hR]
   by_cases h0:x=0
   ·subst h0
    obtain rfl:=hx rfl
    exact ⟨tr,rfl,e0.node eK (cl.lo b hbS) _⟩
   ·rw [if_neg h0]
    exact ⟨h0,⟨_,tr,rfl⟩,e0.node eK (cl.lo b hbS) _⟩
  have cb:(b=P.r)=False:=by have:=cl.lo b hbS;have:=e0.lr;simp;omega
  have cc:(b=P.c)=False:=by have:=cl.lo b hbS;have:=e0.lc;simp;omega
  cases hl:wn kn w with
  | none=>
   rw [hl] at lk
   obtain ⟨K,f,eK,mK⟩:=zl7 eh0 40 a (by omega)
   simp only [yov] at f
   have kK:Kp P S h K:=(k0.trans (mK.kp fun o ho=>by rw [eK.hc,←eh0.hc];exact ho)).weak fun z hz=>hz.elim id False.elim
   have hK:=mK.keep _ _ hn (by rw [ne_eq,cb];exact not_false) (by rw [ne_eq,cc];exact not_false)
   obtain ⟨f1,f2⟩:=fin K false 40 a eK kK hK (by omega) (chkE kn rc rt (.name s a w)) (by rw [chkE,hl];rfl)
   have ff:=ChkR.fin eh f2 hS f1
   simp only [Option.map_none,zld,if_true] at lk
   cases rt
   ·simp only [zp,zi,zb,yor,yos,ypa,yz,ze,zf,yf,laid,ze,←hh0,zj,zl,rbb,rq,ok_0 eh0,rb,vz,zje,b6,vk,vh,nil1,fm,zhm,yjb,fo,lk,f,wb K false hK,zx,pkA,pkB]
    exact ⟨trivial,ff _⟩
   ·simp only [zp,zi,zb,yor,yos,ypa,yz,ze,zf,yf,laid,ze,←hh0,zj,zl,rbb,rq,ok_0 eh0,rb,vz,zje,b6,vk,vh,nil1,fm,zhm,fo,lk,f,wb K false hK,zx,pkA,pkB]
    exact ⟨trivial,ff _⟩
  | some t=>
   rw [hl] at lk
   simp only [yp6,zld,if_true] at lk
   cases hm:(rt&&rc.contains w)
   ·obtain ⟨f1,f2⟩:=fin h0 t 0 0 eh0 k0 hn (fun _=>rfl) (chkE kn rc rt (.name s a w)) (by rw [chkE,hl];simp only [hm];rfl)
    have ff:=ChkR.fin eh f2 hS f1
    cases rt
    ·simp only [zp,zi,zb,yor,yos,ypa,yz,ze,zf,yf,laid,ze,←hh0,zj,zl,rbb,rq,ok_0 eh0,rb,vz,zje,vk,vh,nil1,fm,zhm,yjb,fo,lk,wb h0 t hn,zx,pkA,pkB]
     exact ⟨trivial,ff _⟩
    ·rw [yp2] at hm
     simp only [zp,zi,zb,yor,yos,ypa,yz,ze,zf,yf,laid,ze,←hh0,zj,zl,rbb,rq,ok_0 eh0,rb,vz,zje,vk,vh,nil1,fm,zhm,fo,lk,lr,hm,wb h0 t hn,zx,pkA,pkB]
     exact ⟨trivial,ff _⟩
   ·obtain ⟨K,f,eK,mK⟩:=zl7 eh0 43 a (by omega)
    simp only [yov] at f
    have kK:Kp P S h K:=(k0.trans (mK.kp fun o ho=>by rw [eK.hc,←eh0.hc];exact ho)).weak fun z hz=>hz.elim id False.elim
    have hK:=mK.keep _ _ hn (by rw [ne_eq,cb];exact not_false) (by rw [ne_eq,cc];exact not_false)
    obtain ⟨f1,f2⟩:=fin K t 43 a eK kK hK (by omega) (chkE kn rc rt (.name s a w)) (by rw [chkE,hl];simp only [hm];rfl)
    have ff:=ChkR.fin eh f2 hS f1
    rw [ypi] at hm
    obtain ⟨rfl,hm⟩:=hm
    simp only [zp,zi,zb,yor,yos,ypa,yz,ze,zf,yf,laid,ze,←hh0,zj,zl,rbb,rq,ok_0 eh0,rb,vz,zje,b6,vk,vh,nil1,fm,zhm,fo,lk,lr,hm,f,wb K t hK,zx,pkA,pkB]
    exact ⟨trivial,ff _⟩
 obtain ⟨v,h',r,rfl,g⟩:=this
 exact ⟨h',r,g⟩
end Go.Proofs.YtljdbheclfaloaaGreatDoor.AM
