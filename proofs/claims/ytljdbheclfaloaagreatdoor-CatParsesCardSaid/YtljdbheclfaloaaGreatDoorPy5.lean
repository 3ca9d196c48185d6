/-
  Part 5.
  Conditions: as each says.
-/
import Derived.Test.YtljdbheclfaloaaGreatDoorPy4
open List renaming getElem?_eq_some_iff→yoq,getElem?_set_ne→you,getElem?_eq_getElem→yow,getElem?_set_self→yox,length_set→yo3,drop_eq_nil_of_le→yo5,length_append→yo8,length_cons→ypb,length_map→ypd,mem_append→ype,length_drop→ypf,eq_nil_of_length_eq_zero→ypj,append_nil→ypl,getElem?_append_right→ypn,drop_eq_getElem_cons→ypo,take_length→ypq,map_cons→ypr,mem_singleton→ypw,mem_cons→ypx,take_of_length_le→ypy,getElem?_take→yp0,getElem?_map→yp1,mem_of_getElem?→yp3,append_assoc→yp4,drop_length→yp5,map_append→yp8,mem_of_mem_take→yqi
open Nat renaming reduceAdd→yor,reduceSub→yos,le_refl→yoz,reduceLT→ypc,add_zero→yqe,le_trans→yqf
open Option.some renaming injEq→yot,inj→yqc
open Int renaming cast_ofNat_Int→yov,reduceBNe→yo7,reduceLT→yqd
open Bool renaming false_eq_true→yoy,false_ne_true→yo1,bne_true→yo4,bne_false→ypa,and_eq_true→ypi,or_eq_false_iff→ypu,false_or→ypz,true_and→yp2,or_eq_true→yqa
open Prod.mk renaming injEq→yo2
open Option renaming map_some→yp6
open Ne renaming symm→yps
open BitVec renaming allOnes→yqb
namespace Go.Proofs.YtljdbheclfaloaaGreatDoor.AM
open Go.RowKit
set_option linter.unusedSimpArgs false
set_option linter.unusedVariables false
set_option maxRecDepth 20000
theorem zz5 (P:RP) (kn:Kn) (rc:List Bys) (a:Nat) (rt:Bool):zg3 P kn rc rt (.zero a):=by
 intro hb h i0 i q km n rm S v e0 eh ch tr cl hS
 obtain ⟨b,rfl,hbS,hbo⟩:=tr
 have:∃v h',DF FF yh [pt q,pt b,.bool rt] h=some (v,h')∧(v=tup []∧ChkR P i S (pt b) a h' (chkE kn rc rt (.zero a))∧Kp P S h h'):=by
  refine yb va ?_
  obtain ⟨h0,hh0⟩:∃h0,h0=h++[AObj.cells [pt q] 0 false]:=⟨_,rfl⟩
  have eh0:Rd P h0 i 0 0 0:=by rw [hh0];exact eh.more _
  have k0:Kp P S h h0:=by rw [hh0];exact Kp.add _ _ _ _
  have hbb:h0[h.length]?=some (.cells [pt q] 0 false):=by rw [hh0];simp
  have lh0:h.length<h0.length:=by rw [hh0];simp
  have ch0:=ch.kp eh k0 cl.q cl.k cl.r
  have hn:h0[b]?=some (.cells (xt [48] [] a nilP nilP false) 0 false):=by rw [hh0];exact zm _ hbo
  have rb:∀j,Heap.read1 h0 ⟨b,j,some 0⟩=(xt [48] [] a nilP nilP false)[j]?:=fun j=>zr hn
  have rq:∀j,Heap.read1 h0 ⟨q,j,some 0⟩=([pt P.r,.map (some km),rm,.int .i64 (n:Int)]:List Value)[j]?:=fun j=>zr ch0.cq
  have rbb:∀j,Heap.read1 h0 ⟨h.length,j,some 0⟩=([pt q]:List Value)[j]?:=fun j=>zr hbb
  have nil1:=fun rt=>zhi (q:=q) eh0 rt
  have f1:ChkR P i S (pt b) a h0 (chkE kn rc rt (.zero a)):=⟨⟨b,rfl,hbS,hn⟩,rfl,eh0⟩
  have ff:=ChkR.fin eh k0 hS f1
  cases rt
  ·simp only [zp,zi,zb,yor,yos,ypa,yz,ze,zf,yf,laid,ze,←hh0,zj,zl,rbb,rq,ok_0 eh0,rb,vz,vk,vh,nil1,fm,zum,zuh,zuv,zv8,zva,zve,zux,zvp,zvk,zuw,zqq,zrj,zx,pkA,pkB]
   exact ⟨trivial,ff _⟩
  ·simp only [zp,zi,zb,yor,yos,ypa,yz,ze,zf,yf,laid,ze,←hh0,zj,zl,rbb,rq,ok_0 eh0,rb,vz,vk,vh,nil1,fm,zum,zuh,zuv,zv8,zva,zve,zux,zvp,zvk,zuw,zqq,zrj,zx,pkA,pkB]
   exact ⟨trivial,ff _⟩
 obtain ⟨v,h',r,rfl,g⟩:=this
 exact ⟨h',r,g⟩
structure One (P:RP) (h h0 h1:Heap) (i q km n b bx x c:Nat) (rm:Value) (kn:Kn) (rc:List Bys) (S:Nat→Prop) (op:Bys) (a:Nat) (rv:Value) (s t:Bool) (pl:Nat):Prop where
 rd:Rd P h1 i 0 x c
 kp:Kp P S h h1
 cq:h1[q]?=some (.cells [pt P.r,.map (some km),rm,.int .i64 (n:Int)] 0 false)
 bb:h1[h.length]?=some (.cells [pt q] 0 false)
 nd:h1[b]?=some (.cells (xt op [] a (pt bx) rv s) 0 false)
 ch:∃op' w' l' r',h1[bx]?=some (.cells (xt op' w' pl l' r' t) 0 false)
def OneR (h1:Heap) (S':Nat→Prop) (bx pl x c:Nat) (t:Bool):CR Ex→Prop
 | .ok e'=>x=0∧c=0∧t=e'.set∧TreeP h1 S' (pt bx) e'∧e'.pl=pl
 | .bad x' c'=>x≠0∧x=x'∧c=c'∧∃e',TreeP h1 S' (pt bx) e'∧e'.pl=pl
theorem zxu {P:RP} {hb h h0 h1:Heap} {i0 i q km n b:Nat} {rm xv:Value} {kn:Kn} {rc:List Bys} {S S':Nat→Prop} {op:Bys} {a:Nat} {rv:Value} {s:Bool} {e:Ex} {R:CR Ex} (e0:Rd P hb i0 0 0 0) (eh:Rd P h i 0 0 0) (eh0:Rd P h0 i 0 0 0) (k0:Kp P S h h0) (hbb:h0[h.length]?=some (.cells [pt q] 0 false)) (ch0:Ch P h0 q km rm n kn rc)
  (hn:h0[b]?=some (.cells (xt op [] a xv rv s) 0 false)) (cl:Cl P hb q km rm S) (hS:∀z,S z→z<h.length) (hbS:S b) (hs:∀y,S' y→S y∧y≠b) (r1:ChkR P i S' xv e.pl h1 R) (k1:Kp P S' h0 h1):
  ∃bx x c t,xv=pt bx∧One P h h0 h1 i q km n b bx x c rm kn rc S op a rv s t e.pl∧OneR h1 S' bx e.pl x c t R:=by
 have nr:∀z,hb.length≤z→z≠P.r:=fun z hz=>by have:=e0.lr;omega
 have kp:Kp P S h h1:=(k0.trans k1).weak fun z hz=>hz.elim id fun h=>(hs z h).1
 have ch1:=ch0.kp eh0 k1 (fun h=>cl.q (hs _ h).1) (fun h=>cl.k (hs _ h).1) (fun b hb h=>cl.r b hb (hs _ h).1)
 have bb1:=k1.keep _ _ hbb (fun h=>by have:=hS _ (hs _ h).1;omega) (by have:=eh.lr;omega)
 have nd1:=k1.keep _ _ hn (fun h=>(hs _ h).2 rfl) (nr b (cl.lo b hbS))
 cases R with
 | ok e'=>
  obtain ⟨t,hp,e1⟩:=r1
  obtain ⟨bx,op',w',l',r',rfl,_,hbx⟩:=t.root
  rw [hp] at hbx
  exact ⟨bx,0,0,e'.set,rfl,⟨e1,kp,ch1.cq,bb1,nd1,_,_,_,_,hbx⟩,rfl,rfl,rfl,t,hp⟩
 | bad x c=>
  obtain ⟨hx,⟨e',t,hp⟩,e1⟩:=r1
  obtain ⟨bx,op',w',l',r',rfl,_,hbx⟩:=t.root
  rw [hp] at hbx
  exact ⟨bx,x,c,e'.set,rfl,⟨e1,kp,ch1.cq,bb1,nd1,_,_,_,_,hbx⟩,hx,rfl,rfl,e',t,hp⟩
set_option maxHeartbeats 4000000 in
theorem yei (P:RP) (kn:Kn) (rc:List Bys) (s:Bool) (a:Nat) (e:Ex) (rt:Bool) (ih:zg3 P kn rc rt e):zg3 P kn rc rt (.par s a e):=by
 intro hb h i0 i q km n rm S v e0 eh ch tr cl hS
 obtain ⟨b,S',xv,rfl,hbS,hbo,tx,hs⟩:=tr
 have:∃v h',DF FF yh [pt q,pt b,.bool rt] h=some (v,h')∧(v=tup []∧ChkR P i S (pt b) (a) h' (chkE kn rc rt (.par s a e))∧Kp P S h h'):=by
  refine yb va ?_
  obtain ⟨h0,hh0⟩:∃h0,h0=h++[AObj.cells [pt q] 0 false]:=⟨_,rfl⟩
  have eh0:Rd P h0 i 0 0 0:=by rw [hh0];exact eh.more _
  have k0:Kp P S h h0:=by rw [hh0];exact Kp.add _ _ _ _
  have hbb:h0[h.length]?=some (.cells [pt q] 0 false):=by rw [hh0];simp
  have lh0:h.length<h0.length:=by rw [hh0];simp
  have ch0:=ch.kp eh k0 cl.q cl.k cl.r
  have hn:h0[b]?=some (.cells (xt [40] [] a xv nilP s) 0 false):=by rw [hh0];exact zm _ hbo
  have rb:∀j,Heap.read1 h0 ⟨b,j,some 0⟩=(xt [40] [] a xv nilP s)[j]?:=fun j=>zr hn
  have rq:∀j,Heap.read1 h0 ⟨q,j,some 0⟩=([pt P.r,.map (some km),rm,.int .i64 (n:Int)]:List Value)[j]?:=fun j=>zr ch0.cq
  have rbb:∀j,Heap.read1 h0 ⟨h.length,j,some 0⟩=([pt q]:List Value)[j]?:=fun j=>zr hbb
  obtain ⟨h1,q1,r1,k1⟩:=ih hb h0 i0 i q km n rm S' xv e0 eh0 ch0 (tx.keep fun c o hc ho=>by rw [hh0];exact zm _ ho) (cl.weak fun z hz=>(hs z hz).1) (fun z hz=>by have:=hS z (hs z hz).1;omega)
  obtain ⟨bx,x,c,t,rfl,O,hR⟩:=zxu e0 eh eh0 k0 hbb ch0 hn cl hS hbS hs r1 k1
  have eh1:=O.rd
  have nil1:=fun rt=>zhi (q:=q) eh1 rt
  have rb1:∀j,Heap.read1 h1 ⟨b,j,some 0⟩=(xt [40] [] (a) (pt bx) nilP s)[j]?:=fun j=>zr O.nd
  have rq1:∀j,Heap.read1 h1 ⟨q,j,some 0⟩=([pt P.r,.map (some km),rm,.int .i64 (n:Int)]:List Value)[j]?:=fun j=>zr O.cq
  have rbb1:∀j,Heap.read1 h1 ⟨h.length,j,some 0⟩=([pt q]:List Value)[j]?:=fun j=>zr O.bb
  obtain ⟨op',w',l',r',hx⟩:=O.ch
  cases hc:chkE kn rc rt e with
  | bad ec ea=>
   rw [hc] at hR
   obtain ⟨hx0,rfl,rfl,e',te,hp⟩:=hR
   have hRR:chkE kn rc rt (.par s a e)=.bad x c:=by rw [chkE,hc]
   have f1:ChkR P i S (pt b) (a) h1 (chkE kn rc rt (.par s a e)):=by rw [hRR];exact ⟨hx0,⟨.par s a e',⟨b,S',pt bx,rfl,hbS,O.nd,te,hs⟩,rfl⟩,eh1⟩
   have ff:=ChkR.fin eh O.kp hS f1
   cases rt
   ·simp only [zp,zi,zb,yor,yos,ypa,yz,ze,zf,yf,laid,ze,←hh0,zj,zl,rbb,rq,ok_0 eh0,rb,vz,vk,vh,q1,nil1,rb1,rq1,rbb1,ydi,fz eh1 hx0,kv,pkA,pkB]
    exact ⟨trivial,ff _⟩
   ·simp only [zp,zi,zb,yor,yos,ypa,yz,ze,zf,laid,ze,←hh0,zj,zl,rbb,rq,ok_0 eh0,rb,vk,vh,q1,nil1,rb1,rq1,rbb1,fz eh1 hx0,kv,pkA,pkB]
    exact ⟨trivial,ff _⟩
  | ok e'=>
   rw [hc] at hR
   obtain ⟨rfl,rfl,rfl,te,hp⟩:=hR
   have hRR:chkE kn rc rt (.par s a e)=.ok (.par e'.set a e'):=by rw [chkE,hc]
   have rx:Heap.read1 h1 ⟨bx,5,some 0⟩=some (.bool e'.set):=zr hx
   have lb:=(yoq.1 O.nd).1
   have wb:Heap.write1 h1 ⟨b,5,some 0⟩ (.bool e'.set)=some (h1.set b (.cells (xt [40] [] a (pt bx) nilP e'.set) 0 false)):=by rw [jo O.nd (by simp [xt]),zlc]
   have f1:ChkR P i S (pt b) a (h1.set b (.cells (xt [40] [] a (pt bx) nilP e'.set) 0 false)) (chkE kn rc rt (.par s a e)):=by
    rw [hRR]
    exact ⟨⟨b,S',pt bx,rfl,hbS,yox lb,te.keep fun z o hz ho=>by rw [you (yps (hs z hz).2)];exact ho,hs⟩,rfl,e0.node eh1 (cl.lo b hbS) _⟩
   have ff:=ChkR.fin eh (O.kp.set hbS _) hS f1
   cases rt
   ·simp only [zp,zi,zb,yor,yos,ypa,yz,ze,zf,yf,laid,ze,←hh0,zj,zl,rbb,rq,ok_0 eh0,rb,vz,vk,vh,q1,nil1,rb1,rq1,rbb1,fm,ydy,yiq,yi2,ydi,yig,yi6,yjd,ok_0 eh1,rx,wb,zx,pkA,pkB]
    exact ⟨trivial,ff _⟩
   ·simp only [zp,zi,zb,yor,yos,ypa,yz,ze,zf,yf,laid,ze,←hh0,zj,zl,rbb,rq,ok_0 eh0,rb,vz,vk,vh,q1,nil1,rb1,rq1,rbb1,fm,ydy,yiq,yi2,ydi,yig,yi6,yjd,ok_0 eh1,rx,wb,zx,pkA,pkB]
    exact ⟨trivial,ff _⟩
 obtain ⟨v,h',r,rfl,g⟩:=this
 exact ⟨h',r,g⟩
set_option maxHeartbeats 4000000 in
theorem yeb (P:RP) (kn:Kn) (rc:List Bys) (a:Nat) (e:Ex) (rt:Bool) (ih:zg3 P kn rc rt e):zg3 P kn rc rt (.box a e):=by
 intro hb h i0 i q km n rm S v e0 eh ch tr cl hS
 obtain ⟨b,S',xv,rfl,hbS,hbo,tx,hs⟩:=tr
 have:∃v h',DF FF yh [pt q,pt b,.bool rt] h=some (v,h')∧(v=tup []∧ChkR P i S (pt b) (a) h' (chkE kn rc rt (.box a e))∧Kp P S h h'):=by
  refine yb va ?_
  obtain ⟨h0,hh0⟩:∃h0,h0=h++[AObj.cells [pt q] 0 false]:=⟨_,rfl⟩
  have eh0:Rd P h0 i 0 0 0:=by rw [hh0];exact eh.more _
  have k0:Kp P S h h0:=by rw [hh0];exact Kp.add _ _ _ _
  have hbb:h0[h.length]?=some (.cells [pt q] 0 false):=by rw [hh0];simp
  have lh0:h.length<h0.length:=by rw [hh0];simp
  have ch0:=ch.kp eh k0 cl.q cl.k cl.r
  have hn:h0[b]?=some (.cells (xt [91] [] a xv nilP false) 0 false):=by rw [hh0];exact zm _ hbo
  have rb:∀j,Heap.read1 h0 ⟨b,j,some 0⟩=(xt [91] [] a xv nilP false)[j]?:=fun j=>zr hn
  have rq:∀j,Heap.read1 h0 ⟨q,j,some 0⟩=([pt P.r,.map (some km),rm,.int .i64 (n:Int)]:List Value)[j]?:=fun j=>zr ch0.cq
  have rbb:∀j,Heap.read1 h0 ⟨h.length,j,some 0⟩=([pt q]:List Value)[j]?:=fun j=>zr hbb
  obtain ⟨h1,q1,r1,k1⟩:=ih hb h0 i0 i q km n rm S' xv e0 eh0 ch0 (tx.keep fun c o hc ho=>by rw [hh0];exact zm _ ho) (cl.weak fun z hz=>(hs z hz).1) (fun z hz=>by have:=hS z (hs z hz).1;omega)
  obtain ⟨bx,x,c,t,rfl,O,hR⟩:=zxu e0 eh eh0 k0 hbb ch0 hn cl hS hbS hs r1 k1
  have eh1:=O.rd
  have nil1:=fun rt=>zhi (q:=q) eh1 rt
  have rb1:∀j,Heap.read1 h1 ⟨b,j,some 0⟩=(xt [91] [] (a) (pt bx) nilP false)[j]?:=fun j=>zr O.nd
  have rq1:∀j,Heap.read1 h1 ⟨q,j,some 0⟩=([pt P.r,.map (some km),rm,.int .i64 (n:Int)]:List Value)[j]?:=fun j=>zr O.cq
  have rbb1:∀j,Heap.read1 h1 ⟨h.length,j,some 0⟩=([pt q]:List Value)[j]?:=fun j=>zr O.bb
  obtain ⟨op',w',l',r',hx⟩:=O.ch
  cases hc:chkE kn rc rt e with
  | bad ec ea=>
   rw [hc] at hR
   obtain ⟨hx0,rfl,rfl,e',te,hp⟩:=hR
   have hRR:chkE kn rc rt (.box a e)=.bad x c:=by rw [chkE,hc]
   have f1:ChkR P i S (pt b) (a) h1 (chkE kn rc rt (.box a e)):=by rw [hRR];exact ⟨hx0,⟨.box a e',⟨b,S',pt bx,rfl,hbS,O.nd,te,hs⟩,rfl⟩,eh1⟩
   have ff:=ChkR.fin eh O.kp hS f1
   cases rt
   ·simp only [zp,zi,zb,yor,yos,ypa,yz,ze,zf,yf,laid,ze,←hh0,zj,zl,rbb,rq,ok_0 eh0,rb,vz,vk,vh,q1,nil1,rb1,rq1,rbb1,zpz,fz eh1 hx0,kv,pkA,pkB]
    exact ⟨trivial,ff _⟩
   ·simp only [zp,zi,zb,yor,yos,ypa,yz,ze,zf,laid,ze,←hh0,zj,zl,rbb,rq,ok_0 eh0,rb,vk,vh,q1,nil1,rb1,rq1,rbb1,fz eh1 hx0,kv,pkA,pkB]
    exact ⟨trivial,ff _⟩
  | ok e'=>
   rw [hc] at hR
   obtain ⟨rfl,rfl,rfl,te,hp⟩:=hR
   cases hst:(e'.set==true)
   ·have hRR:chkE kn rc rt (.box a e)=.bad 41 e.pl:=by rw [chkE,hc];cases h':e'.set <;> rw [h'] at hst <;> simp_all
    obtain ⟨h2,qm,e2,m2,c2⟩:=zq3 eh1 O.cq O.bb hx hst
    have k2:=m2.kp fun o ho=>by rw [c2];exact ho
    have nd2:=k2.keep _ _ O.nd id (by have:=cl.lo b hbS;have:=e0.lr;omega)
    have f1:ChkR P i S (pt b) (a) h2 (chkE kn rc rt (.box a e)):=by
     rw [hRR]
     exact ⟨by omega,⟨.box a e',⟨b,S',pt bx,rfl,hbS,nd2,te.keep fun z o hz ho=>k2.keep z o ho id (by have:=cl.lo z (hs z hz).1;have:=e0.lr;omega),hs⟩,rfl⟩,e2⟩
    have ff:=ChkR.fin eh ((O.kp.trans k2).weak fun z hz=>hz.elim id False.elim) hS f1
    cases rt
    ·simp only [zp,zi,zb,yor,yos,ypa,yz,ze,zf,yf,laid,ze,←hh0,zj,zl,rbb,rq,ok_0 eh0,rb,vz,vk,vh,q1,nil1,rb1,rq1,rbb1,fm,pm,qi,zs0,zt0,ztr,zpz,ztw,zs7,ok_0 eh1,qm,zx,pkA,pkB]
     exact ⟨trivial,ff _⟩
    ·simp only [zp,zi,zb,yor,yos,ypa,yz,ze,zf,yf,laid,ze,←hh0,zj,zl,rbb,rq,ok_0 eh0,rb,vz,vk,vh,q1,nil1,rb1,rq1,rbb1,fm,pm,qi,zs0,zt0,ztr,zpz,ztw,zs7,ok_0 eh1,qm,zx,pkA,pkB]
     exact ⟨trivial,ff _⟩
   ·have hRR:chkE kn rc rt (.box a e)=.ok (.box a e'):=by rw [chkE,hc];cases h':e'.set <;> rw [h'] at hst <;> simp_all
    have qm:=zr6 (bb:=h.length) hx
    rw [eq_of_beq hst] at qm
    have f1:ChkR P i S (pt b) (a) h1 (chkE kn rc rt (.box a e)):=by
     rw [hRR]
     exact ⟨⟨b,S',pt bx,rfl,hbS,O.nd,te,hs⟩,rfl,eh1⟩
    have ff:=ChkR.fin eh O.kp hS f1
    cases rt
    ·simp only [zp,zi,zb,yor,yos,ypa,yz,ze,zf,yf,laid,ze,←hh0,zj,zl,rbb,rq,ok_0 eh0,rb,vz,vk,vh,q1,nil1,rb1,rq1,rbb1,fm,pm,qi,zs0,zt0,ztr,zpz,ztw,zs7,ok_0 eh1,qm,zx,pkA,pkB]
     exact ⟨trivial,ff _⟩
    ·simp only [zp,zi,zb,yor,yos,ypa,yz,ze,zf,yf,laid,ze,←hh0,zj,zl,rbb,rq,ok_0 eh0,rb,vz,vk,vh,q1,nil1,rb1,rq1,rbb1,fm,pm,qi,zs0,zt0,ztr,zpz,ztw,zs7,ok_0 eh1,qm,zx,pkA,pkB]
     exact ⟨trivial,ff _⟩
 obtain ⟨v,h',r,rfl,g⟩:=this
 exact ⟨h',r,g⟩
set_option maxHeartbeats 4000000 in
theorem yha (P:RP) (kn:Kn) (rc:List Bys) (op:Op1) (e:Ex) (rt:Bool) (ih:zg3 P kn rc rt e):zg3 P kn rc rt (.un op e):=by
 intro hb h i0 i q km n rm S v e0 eh ch tr cl hS
 obtain ⟨b,S',xv,rfl,hbS,hbo,tx,hs⟩:=tr
 have:∃v h',DF FF yh [pt q,pt b,.bool rt] h=some (v,h')∧(v=tup []∧ChkR P i S (pt b) (e.pl) h' (chkE kn rc rt (.un op e))∧Kp P S h h'):=by
  refine yb va ?_
  obtain ⟨h0,hh0⟩:∃h0,h0=h++[AObj.cells [pt q] 0 false]:=⟨_,rfl⟩
  have eh0:Rd P h0 i 0 0 0:=by rw [hh0];exact eh.more _
  have k0:Kp P S h h0:=by rw [hh0];exact Kp.add _ _ _ _
  have hbb:h0[h.length]?=some (.cells [pt q] 0 false):=by rw [hh0];simp
  have lh0:h.length<h0.length:=by rw [hh0];simp
  have ch0:=ch.kp eh k0 cl.q cl.k cl.r
  have hn:h0[b]?=some (.cells (xt (op1S op) [] e.pl xv nilP false) 0 false):=by rw [hh0];exact zm _ hbo
  have rb:∀j,Heap.read1 h0 ⟨b,j,some 0⟩=(xt (op1S op) [] e.pl xv nilP false)[j]?:=fun j=>zr hn
  have rq:∀j,Heap.read1 h0 ⟨q,j,some 0⟩=([pt P.r,.map (some km),rm,.int .i64 (n:Int)]:List Value)[j]?:=fun j=>zr ch0.cq
  have rbb:∀j,Heap.read1 h0 ⟨h.length,j,some 0⟩=([pt q]:List Value)[j]?:=fun j=>zr hbb
  obtain ⟨h1,q1,r1,k1⟩:=ih hb h0 i0 i q km n rm S' xv e0 eh0 ch0 (tx.keep fun c o hc ho=>by rw [hh0];exact zm _ ho) (cl.weak fun z hz=>(hs z hz).1) (fun z hz=>by have:=hS z (hs z hz).1;omega)
  obtain ⟨bx,x,c,t,rfl,O,hR⟩:=zxu e0 eh eh0 k0 hbb ch0 hn cl hS hbS hs r1 k1
  have eh1:=O.rd
  have nil1:=fun rt=>zhi (q:=q) eh1 rt
  have rb1:∀j,Heap.read1 h1 ⟨b,j,some 0⟩=(xt (op1S op) [] (e.pl) (pt bx) nilP false)[j]?:=fun j=>zr O.nd
  have rq1:∀j,Heap.read1 h1 ⟨q,j,some 0⟩=([pt P.r,.map (some km),rm,.int .i64 (n:Int)]:List Value)[j]?:=fun j=>zr O.cq
  have rbb1:∀j,Heap.read1 h1 ⟨h.length,j,some 0⟩=([pt q]:List Value)[j]?:=fun j=>zr O.bb
  obtain ⟨op',w',l',r',hx⟩:=O.ch
  cases hc:chkE kn rc rt e with
  | bad ec ea=>
   rw [hc] at hR
   obtain ⟨hx0,rfl,rfl,e',te,hp⟩:=hR
   have hRR:chkE kn rc rt (.un op e)=.bad x c:=by rw [chkE,hc]
   have f1:ChkR P i S (pt b) (e.pl) h1 (chkE kn rc rt (.un op e)):=by rw [hRR];exact ⟨hx0,⟨.un op e',⟨b,S',pt bx,rfl,hbS,by rw [hp];exact O.nd,te,hs⟩,hp⟩,eh1⟩
   have ff:=ChkR.fin eh O.kp hS f1
   cases rt <;> cases op
   all_goals
    simp only [zp,zi,zb,yor,yos,ypa,yz,ze,zf,yf,laid,ze,←hh0,zj,zl,rbb,rq,ok_0 eh0,rb,vz,vk,vh,q1,nil1,rb1,rq1,rbb1,op1S,zx8,zxe,zrv,zqi,fz eh1 hx0,kv,pkA,pkB]
    exact ⟨trivial,ff _⟩
  | ok e'=>
   rw [hc] at hR
   obtain ⟨rfl,rfl,rfl,te,hp⟩:=hR
   cases hst:(e'.set==false)
   ·have hRR:chkE kn rc rt (.un op e)=.bad 41 e.pl:=by rw [chkE,hc];cases h':e'.set <;> rw [h'] at hst <;> simp_all
    obtain ⟨h2,qm,e2,m2,c2⟩:=zq3 eh1 O.cq O.bb hx hst
    have k2:=m2.kp fun o ho=>by rw [c2];exact ho
    have nd2:=k2.keep _ _ O.nd id (by have:=cl.lo b hbS;have:=e0.lr;omega)
    have f1:ChkR P i S (pt b) (e.pl) h2 (chkE kn rc rt (.un op e)):=by
     rw [hRR]
     exact ⟨by omega,⟨.un op e',⟨b,S',pt bx,rfl,hbS,by rw [hp];exact nd2,te.keep fun z o hz ho=>k2.keep z o ho id (by have:=cl.lo z (hs z hz).1;have:=e0.lr;omega),hs⟩,hp⟩,e2⟩
    have ff:=ChkR.fin eh ((O.kp.trans k2).weak fun z hz=>hz.elim id False.elim) hS f1
    cases rt <;> cases op
    all_goals
     simp only [zp,zi,zb,yor,yos,ypa,yz,ze,zf,yf,laid,ze,←hh0,zj,zl,rbb,rq,ok_0 eh0,rb,vz,vk,vh,q1,nil1,rb1,rq1,rbb1,fm,pm,qi,op1S,ybs,ybq,ycn,zx8,yd7,yfi,ybm,yfm,yb3,ya6,ycq,zxe,ya4,yc9,ya3,yev,yb8,zv0,zwo,zuk,zrv,zv3,zwi,zuy,zwg,zvr,zvn,zwf,zu5,zuc,zqi,zvc,zwy,zv4,zu4,zwx,zwv,zr1,ok_0 eh1,qm,zx,pkA,pkB]
     exact ⟨trivial,ff _⟩
   ·have hRR:chkE kn rc rt (.un op e)=.ok (.un op e'):=by rw [chkE,hc];cases h':e'.set <;> rw [h'] at hst <;> simp_all
    have qm:=zr6 (bb:=h.length) hx
    rw [eq_of_beq hst] at qm
    have f1:ChkR P i S (pt b) (e.pl) h1 (chkE kn rc rt (.un op e)):=by
     rw [hRR]
     exact ⟨⟨b,S',pt bx,rfl,hbS,by rw [hp];exact O.nd,te,hs⟩,hp,eh1⟩
    have ff:=ChkR.fin eh O.kp hS f1
    cases rt <;> cases op
    all_goals
     simp only [zp,zi,zb,yor,yos,ypa,yz,ze,zf,yf,laid,ze,←hh0,zj,zl,rbb,rq,ok_0 eh0,rb,vz,vk,vh,q1,nil1,rb1,rq1,rbb1,fm,pm,qi,op1S,ybs,ybq,ycn,zx8,yd7,yfi,ybm,yfm,yb3,ya6,ycq,zxe,ya4,yc9,ya3,yev,yb8,zv0,zwo,zuk,zrv,zv3,zwi,zuy,zwg,zvr,zvn,zwf,zu5,zuc,zqi,zvc,zwy,zv4,zu4,zwx,zwv,zr1,ok_0 eh1,qm,zx,pkA,pkB]
     exact ⟨trivial,ff _⟩
 obtain ⟨v,h',r,rfl,g⟩:=this
 exact ⟨h',r,g⟩
/-- What a part of two parts comes to, behind both. -/
structure Two (P:RP) (h h2:Heap) (i q km n b bx by_ x c:Nat) (rm:Value) (S:Nat→Prop) (op:Bys) (a pl pr:Nat) (s tl t:Bool):Prop where
 rd:Rd P h2 i 0 x c
 kp:Kp P S h h2
 cq:h2[q]?=some (.cells [pt P.r,.map (some km),rm,.int .i64 (n:Int)] 0 false)
 bb:h2[h.length]?=some (.cells [pt q] 0 false)
 nd:h2[b]?=some (.cells (xt op [] a (pt bx) (pt by_) s) 0 false)
 cl:∃op' w' l' r',h2[bx]?=some (.cells (xt op' w' pl l' r' tl) 0 false)
 cr:∃op' w' l' r',h2[by_]?=some (.cells (xt op' w' pr l' r' t) 0 false)
theorem ync {P:RP} {hb h h0 h1 h2:Heap} {i0 i q km n b bx:Nat} {rm yv:Value} {kn:Kn} {rc:List Bys} {S S1 S2:Nat→Prop} {op:Bys} {a pl:Nat} {s:Bool} {l' r:Ex} {R:CR Ex} (e0:Rd P hb i0 0 0 0) (eh:Rd P h i 0 0 0)
  (O:One P h h0 h1 i q km n b bx 0 0 rm kn rc S op a yv s l'.set pl) (tl:TreeP h1 S1 (pt bx) l') (hbx:l'.pl=pl) (cl:Cl P hb q km rm S) (hS:∀z,S z→z<h.length) (hbS:S b) (hs1:∀z,S1 z→S z∧z≠b∧¬S2 z) (hs:∀y,S2 y→S y∧y≠b) (r1:ChkR P i S2 yv r.pl h2 R) (k1:Kp P S2 h1 h2):
  ∃by_ x c t,yv=pt by_∧Two P h h2 i q km n b bx by_ x c rm S op a pl r.pl s l'.set t∧OneR h2 S2 by_ r.pl x c t R∧TreeP h2 S1 (pt bx) l':=by
 have nr:∀z,hb.length≤z→z≠P.r:=fun z hz=>by have:=e0.lr;omega
 have kp:Kp P S h h2:=(O.kp.trans k1).weak fun z hz=>hz.elim id fun h=>(hs z h).1
 have nq:q≠P.r:=by rintro rfl;have:=O.rd.hr.symm.trans O.cq;simp at this
 have cq1:=k1.keep _ _ O.cq (fun h=>cl.q (hs _ h).1) nq
 have bb1:=k1.keep _ _ O.bb (fun h=>by have:=hS _ (hs _ h).1;omega) (by have:=eh.lr;omega)
 have nd1:=k1.keep _ _ O.nd (fun h=>(hs _ h).2 rfl) (nr b (cl.lo b hbS))
 have tl2:TreeP h2 S1 (pt bx) l':=tl.keep fun z o hz ho=>k1.keep z o ho (hs1 z hz).2.2 (nr z (cl.lo z (hs1 z hz).1))
 obtain ⟨b',op1,w1,l1,r1',hpb,_,hbx2⟩:=tl2.root
 have hpb:bx=b':=by simpa using hpb
 subst hpb
 rw [hbx] at hbx2
 cases R with
 | ok e'=>
  obtain ⟨t,hp,e1⟩:=r1
  obtain ⟨by_,op',w',l'',r',rfl,_,hby⟩:=t.root
  rw [hp] at hby
  exact ⟨by_,0,0,e'.set,rfl,⟨e1,kp,cq1,bb1,nd1,⟨_,_,_,_,hbx2⟩,_,_,_,_,hby⟩,⟨rfl,rfl,rfl,t,hp⟩,tl2⟩
 | bad x c=>
  obtain ⟨hx,⟨e',t,hp⟩,e1⟩:=r1
  obtain ⟨by_,op',w',l'',r',rfl,_,hby⟩:=t.root
  rw [hp] at hby
  exact ⟨by_,x,c,e'.set,rfl,⟨e1,kp,cq1,bb1,nd1,⟨_,_,_,_,hbx2⟩,_,_,_,_,hby⟩,⟨hx,rfl,rfl,e',t,hp⟩,tl2⟩
theorem zrc {P:RP} {h:Heap} {i q bb:Nat} {km rm nn:Value} (e:Rd P h i 0 0 0) (hq:h[q]?=some (.cells [pt P.r,km,rm,nn] 0 false)) (hbb:h[bb]?=some (.cells [pt q] 0 false)) {b:Nat} {op w:Bys} {p:Nat} {l r:Value} {s:Bool} (t:Bool) (hb:h[b]?=some (.cells (xt op w p l r s) 0 false)):
  ∃h' x c,DF FF y3 [pt b,.bool t,pt bb] h=some (tup [],h')∧Rd P h' i 0 x c∧Kp P (fun _=>False) h h'∧((s==t)=true∧x=0∧c=0∨(s==t)=false∧x=41∧c=p):=by
 cases hst:(s==t)
 ·obtain ⟨h2,qm,e2,m2,c2⟩:=zq3 e hq hbb hb hst
  exact ⟨h2,41,p,qm,e2,m2.kp fun o ho=>by rw [c2];exact ho,.inr ⟨rfl,rfl,rfl⟩⟩
 ·have qm:=zr6 (bb:=bb) hb
  rw [eq_of_beq hst] at qm
  exact ⟨h,0,0,qm,e,Kp.refl _ _ _,.inl ⟨rfl,rfl,rfl⟩⟩
set_option maxHeartbeats 8000000 in
theorem ybn (P:RP) (kn:Kn) (rc:List Bys) (s:Bool) (o:Op2) (l r:Ex) (rt:Bool) (ihl:zg3 P kn rc rt l) (ihr:zg3 P kn rc (rt || o== .minus) r):zg3 P kn rc rt (.bin s o l r):=by
 intro hb h i0 i q km n rm S v e0 eh ch tr cl hS
 obtain ⟨b,S1,S2,xv,yv,rfl,hbS,hbo,tx,ty,hs1,hs2⟩:=tr
 have:∃v h',DF FF yh [pt q,pt b,.bool rt] h=some (v,h')∧(v=tup []∧ChkR P i S (pt b) l.pl h' (chkE kn rc rt (.bin s o l r))∧Kp P S h h'):=by
  refine yb va ?_
  obtain ⟨h0,hh0⟩:∃h0,h0=h++[AObj.cells [pt q] 0 false]:=⟨_,rfl⟩
  have eh0:Rd P h0 i 0 0 0:=by rw [hh0];exact eh.more _
  have k0:Kp P S h h0:=by rw [hh0];exact Kp.add _ _ _ _
  have hbb:h0[h.length]?=some (.cells [pt q] 0 false):=by rw [hh0];simp
  have lh0:h.length<h0.length:=by rw [hh0];simp
  have ch0:=ch.kp eh k0 cl.q cl.k cl.r
  have hn:h0[b]?=some (.cells (xt (op2S o) [] l.pl xv yv s) 0 false):=by rw [hh0];exact zm _ hbo
  have rb:∀j,Heap.read1 h0 ⟨b,j,some 0⟩=(xt (op2S o) [] l.pl xv yv s)[j]?:=fun j=>zr hn
  have rq:∀j,Heap.read1 h0 ⟨q,j,some 0⟩=([pt P.r,.map (some km),rm,.int .i64 (n:Int)]:List Value)[j]?:=fun j=>zr ch0.cq
  have rbb:∀j,Heap.read1 h0 ⟨h.length,j,some 0⟩=([pt q]:List Value)[j]?:=fun j=>zr hbb
  have nr:∀z,hb.length≤z→z≠P.r:=fun z hz=>by have:=e0.lr;omega
  have ty0:TreeP h0 S2 yv r:=ty.keep fun c o hc ho=>by rw [hh0];exact zm _ ho
  obtain ⟨h1,q1,r1,k1⟩:=ihl hb h0 i0 i q km n rm S1 xv e0 eh0 ch0 (tx.keep fun c o hc ho=>by rw [hh0];exact zm _ ho) (cl.weak fun z hz=>(hs1 z hz).1) (fun z hz=>by have:=hS z (hs1 z hz).1;omega)
  have ty1:TreeP h1 S2 yv r:=ty0.keep fun z o hz ho=>k1.keep z o ho (fun h=>(hs1 z h).2.2 hz) (nr z (cl.lo z (hs2 z hz).1))
  obtain ⟨bx,x,c,t,rfl,O,hR⟩:=zxu e0 eh eh0 k0 hbb ch0 hn cl hS hbS (fun z hz=>⟨(hs1 z hz).1,(hs1 z hz).2.1⟩) r1 k1
  have eh1:=O.rd
  have rb1:∀j,Heap.read1 h1 ⟨b,j,some 0⟩=(xt (op2S o) [] l.pl (pt bx) yv s)[j]?:=fun j=>zr O.nd
  have rq1:∀j,Heap.read1 h1 ⟨q,j,some 0⟩=([pt P.r,.map (some km),rm,.int .i64 (n:Int)]:List Value)[j]?:=fun j=>zr O.cq
  have rbb1:∀j,Heap.read1 h1 ⟨h.length,j,some 0⟩=([pt q]:List Value)[j]?:=fun j=>zr O.bb
  obtain ⟨by_,_,_,_,_,rfl,_,_⟩:=ty1.root
  cases hc:chkE kn rc rt l with
  | bad ec ea=>
   rw [hc] at hR
   obtain ⟨hx0,rfl,rfl,l',tl,hp⟩:=hR
   have hRR:chkE kn rc rt (.bin s o l r)=.bad x c:=by rw [chkE,hc]
   have qn:=fun rt=>zx3 eh1 hx0 O.cq by_ rt
   have f1:ChkR P i S (pt b) l.pl h1 (chkE kn rc rt (.bin s o l r)):=by
    rw [hRR]
    exact ⟨hx0,⟨.bin s o l' r,⟨b,S1,S2,pt bx,pt by_,rfl,hbS,by rw [hp];exact O.nd,tl,ty1,hs1,hs2⟩,hp⟩,eh1⟩
   have ff:=ChkR.fin eh O.kp hS f1
   cases rt <;> cases o
   all_goals
    simp only [zp,zi,zb,yor,yos,ypa,yz,ze,zf,yf,laid,ze,←hh0,zj,zl,rbb,rq,ok_0 eh0,rb,vz,vk,vh,q1,rb1,rq1,rbb1,op2S,ybk,yeu,zyb,zyo,qn,fz eh1 hx0,kv,pkA,pkB]
    exact ⟨trivial,ff _⟩
  | ok l'=>
   rw [hc] at hR
   obtain ⟨rfl,rfl,rfl,tl,hp⟩:=hR
   have ch1:=ch0.kp eh0 k1 (fun h=>cl.q (hs1 _ h).1) (fun h=>cl.k (hs1 _ h).1) (fun b hb h=>cl.r b hb (hs1 _ h).1)
   obtain ⟨h2,q2,r2,k2⟩:=ihr hb h1 i0 i q km n rm S2 (pt by_) e0 eh1 ch1 ty1 (cl.weak fun z hz=>(hs2 z hz).1) (fun z hz=>by have:=hS z (hs2 z hz).1;have:=O.kp.le;omega)
   obtain ⟨by2,x,c,t,hby,W,hR2,tl2⟩:=ync e0 eh O tl hp cl hS hbS hs1 hs2 r2 k2
   have hby:by_=by2:=by simpa using hby
   subst hby
   have eh2:=W.rd
   have rb2:∀j,Heap.read1 h2 ⟨b,j,some 0⟩=(xt (op2S o) [] l.pl (pt bx) (pt by_) s)[j]?:=fun j=>zr W.nd
   have rq2:∀j,Heap.read1 h2 ⟨q,j,some 0⟩=([pt P.r,.map (some km),rm,.int .i64 (n:Int)]:List Value)[j]?:=fun j=>zr W.cq
   have rbb2:∀j,Heap.read1 h2 ⟨h.length,j,some 0⟩=([pt q]:List Value)[j]?:=fun j=>zr W.bb
   cases hc2:chkE kn rc (rt || o== .minus) r with
   | bad ec ea=>
    rw [hc2] at hR2
    obtain ⟨hx0,rfl,rfl,r',tr',hpr⟩:=hR2
    have hRR:chkE kn rc rt (.bin s o l r)=.bad x c:=by rw [chkE,hc];simp only [hc2]
    have f1:ChkR P i S (pt b) l.pl h2 (chkE kn rc rt (.bin s o l r)):=by
     rw [hRR]
     exact ⟨hx0,⟨.bin s o l' r',⟨b,S1,S2,pt bx,pt by_,rfl,hbS,by rw [hp];exact W.nd,tl2,tr',hs1,hs2⟩,hp⟩,eh2⟩
    have ff:=ChkR.fin eh W.kp hS f1
    cases rt <;> cases o
    all_goals
     simp only [show (Op2.or==Op2.minus)=false from rfl,show (Op2.and==Op2.minus)=false from rfl,show (Op2.minus==Op2.minus)=true from rfl,show (Op2.seq==Op2.minus)=false from rfl,show (Op2.cross==Op2.minus)=false from rfl,Bool.or_false,Bool.or_true] at q2
     simp only [zp,zi,zb,yor,yos,ypa,yz,ze,zf,yf,laid,ze,←hh0,zj,zl,rbb,rq,ok_0 eh0,rb,vz,vk,vh,q1,rb1,rbb1,op2S,ybk,yeu,zyb,zyo,q2,rbb2,rq2,fz eh2 hx0,kv,pkA,pkB]
     exact ⟨trivial,ff _⟩
   | ok r'=>
    rw [hc2] at hR2
    obtain ⟨rfl,rfl,rfl,tr',hpr⟩:=hR2
    obtain ⟨opl,wl,ll,rl,hcl⟩:=W.cl
    obtain ⟨opr,wr,lr',rr',hcr⟩:=W.cr
    have lb2:=(yoq.1 W.nd).1
    have same:(o=.or∨o=.and∨o=.minus)→∃h3,DF FF y3 [pt by_,.bool l'.set,pt h.length] h2=some (tup [],h3)∧(∀j,Heap.read1 h3 ⟨b,j,some 0⟩=(xt (op2S o) [] l.pl (pt bx) (pt by_) s)[j]?)∧Heap.read1 h3 ⟨bx,5,some 0⟩=some (.bool l'.set)∧
      Heap.write1 h3 ⟨b,5,some 0⟩ (.bool l'.set)=some (h3.set b (.cells (xt (op2S o) [] l.pl (pt bx) (pt by_) l'.set) 0 false))∧∀w,ChkR P i S (pt b) l.pl (AM.finish h w (h3.set b (.cells (xt (op2S o) [] l.pl (pt bx) (pt by_) l'.set) 0 false))) (chkE kn rc rt (.bin s o l r))∧Kp P S h (AM.finish h w (h3.set b (.cells (xt (op2S o) [] l.pl (pt bx) (pt by_) l'.set) 0 false))):=by
     intro ho
     obtain ⟨h3,x3,c3,qm,e3,k3,hx⟩:=zrc eh2 W.cq W.bb l'.set hcr
     have nd3:=k3.keep _ _ W.nd id (nr b (cl.lo b hbS))
     have lb3:=(yoq.1 nd3).1
     have bx3:=k3.keep _ _ hcl id (by
       obtain ⟨b',_,_,_,_,hpb,hbS1,_⟩:=tl2.root;have hpb:bx=b':=by simpa using hpb
       subst hpb;exact nr _ (cl.lo _ (hs1 _ hbS1).1))
     have k3':Kp P S h h3:=(W.kp.trans k3).weak fun z hz=>hz.elim id False.elim
     refine ⟨h3,qm,fun j=>zr nd3,zr bx3,by rw [jo nd3 (by simp [xt]),zlc],fun w=>ChkR.fin eh (k3'.set hbS _) hS ?_ w⟩
     have tree:TreeP (h3.set b (.cells (xt (op2S o) [] l.pl (pt bx) (pt by_) l'.set) 0 false)) S (pt b) (.bin l'.set o l' r'):=
      ⟨b,S1,S2,pt bx,pt by_,rfl,hbS,by rw [hp];exact yox lb3,tl2.keep fun z o hz ho=>by
       rw [you (yps (hs1 z hz).2.1)];exact k3.keep z o ho id (nr z (cl.lo z (hs1 z hz).1)),tr'.keep fun z o hz ho=>by
       rw [you (yps (hs2 z hz).2)];exact k3.keep z o ho id (nr z (cl.lo z (hs2 z hz).1)),hs1,hs2⟩
     have e3':=e0.node e3 (cl.lo b hbS) (.cells (xt (op2S o) [] l.pl (pt bx) (pt by_) l'.set) 0 false)
     rcases hx with ⟨hst,rfl,rfl⟩ | ⟨hst,rfl,rfl⟩
     ·have hRR:chkE kn rc rt (.bin s o l r)=.ok (.bin l'.set o l' r'):=by
       rw [chkE,hc];simp only [hc2]
       have:(r'.set !=l'.set)=false:=by rw [bne,hst];rfl
       rcases ho with rfl | rfl | rfl <;> simp only [this,yoy,if_false]
      rw [hRR]
      exact ⟨tree,hp,e3'⟩
     ·have hRR:chkE kn rc rt (.bin s o l r)=.bad 41 r.pl:=by
       rw [chkE,hc];simp only [hc2]
       have:(r'.set !=l'.set)=true:=by rw [bne,hst];rfl
       rcases ho with rfl | rfl | rfl <;> simp only [this,if_true]
      rw [hRR]
      exact ⟨by omega,⟨_,tree,hp⟩,e3'⟩
    have each:∀k:Bool,(o=.seq∧k=false∨o=.cross∧k=true)→∃h3 h4,DF FF y3 [pt bx,.bool k,pt h.length] h2=some (tup [],h3)∧(∀j,Heap.read1 h3 ⟨b,j,some 0⟩=(xt (op2S o) [] l.pl (pt bx) (pt by_) s)[j]?)∧DF FF y3 [pt by_,.bool k,pt h.length] h3=some (tup [],h4)∧
      ∀w,ChkR P i S (pt b) l.pl (AM.finish h w h4) (chkE kn rc rt (.bin s o l r))∧Kp P S h (AM.finish h w h4):=by
     intro k ho
     obtain ⟨h3,x3,c3,qm,e3,k3,hx⟩:=zrc eh2 W.cq W.bb k hcl
     have nq:q≠P.r:=by rintro rfl;have:=W.rd.hr.symm.trans W.cq;simp at this
     have hbl:h.length≠P.r:=by have:=eh.lr;omega
     have hbyS:by_≠P.r:=by
       obtain ⟨b',_,_,_,_,hpb,hbS1,_⟩:=tr'.root;have hpb:by_=b':=by simpa using hpb
       subst hpb;exact nr _ (cl.lo _ (hs2 _ hbS1).1)
     have nd3:=k3.keep _ _ W.nd id (nr b (cl.lo b hbS))
     have cq3:=k3.keep _ _ W.cq id nq
     have bb3:=k3.keep _ _ W.bb id hbl
     have cr3:=k3.keep _ _ hcr id hbyS
     have tree:∀h4,Kp P (fun _=>False) h3 h4→∀s',s'=s→TreeP h4 S (pt b) (.bin s' o l' r'):=fun h4 k4 s' hs'=>by
      subst hs'
      have kk:=k3.trans k4
      exact ⟨b,S1,S2,pt bx,pt by_,rfl,hbS,by rw [hp];exact kk.keep _ _ W.nd (fun h=>h.elim id id) (nr b (cl.lo b hbS)),tl2.keep fun z o hz ho=>kk.keep z o ho (fun h=>h.elim id id) (nr z (cl.lo z (hs1 z hz).1)),tr'.keep fun z o hz ho=>kk.keep z o ho (fun h=>h.elim id id) (nr z (cl.lo z (hs2 z hz).1)),hs1,hs2⟩
     have kph:∀h4,Kp P (fun _=>False) h3 h4→Kp P S h h4:=fun h4 k4=>((W.kp.trans k3).trans k4).weak fun z hz=>hz.elim (fun h=>h.elim id False.elim) False.elim
     rcases hx with ⟨hst,rfl,rfl⟩ | ⟨hst,rfl,rfl⟩
     ·obtain ⟨h4,x4,c4,qm4,e4,k4,hx4⟩:=zrc e3 cq3 bb3 k cr3
      refine ⟨h3,h4,qm,fun j=>zr nd3,qm4,fun w=>ChkR.fin eh (kph h4 k4) hS ?_ w⟩
      rcases hx4 with ⟨hst4,rfl,rfl⟩ | ⟨hst4,rfl,rfl⟩
      ·have hRR:chkE kn rc rt (.bin s o l r)=.ok (.bin s o l' r'):=by
        rw [chkE,hc];simp only [hc2]
        rcases ho with ⟨rfl,rfl⟩ | ⟨rfl,rfl⟩<;>(cases h':l'.set <;> cases h'':r'.set <;> simp_all)
       rw [hRR]
       exact ⟨tree h4 k4 s rfl,hp,e4⟩
      ·have hRR:chkE kn rc rt (.bin s o l r)=.bad 41 r.pl:=by
        rw [chkE,hc];simp only [hc2]
        rcases ho with ⟨rfl,rfl⟩ | ⟨rfl,rfl⟩<;>(cases h':l'.set <;> cases h'':r'.set <;> simp_all)
       rw [hRR]
       exact ⟨by omega,⟨_,tree h4 k4 s rfl,hp⟩,e4⟩
     ·have qm4:=ykr e3 (by omega) cq3 bb3 k cr3
      refine ⟨h3,h3,qm,fun j=>zr nd3,qm4,fun w=>ChkR.fin eh (kph h3 (Kp.refl _ _ _)) hS ?_ w⟩
      have hRR:chkE kn rc rt (.bin s o l r)=.bad 41 l.pl:=by
       rw [chkE,hc];simp only [hc2]
       rcases ho with ⟨rfl,rfl⟩ | ⟨rfl,rfl⟩<;>(cases h':l'.set <;> simp_all)
      rw [hRR]
      exact ⟨by omega,⟨_,tree h3 (Kp.refl _ _ _) s rfl,hp⟩,e3⟩
    have rbx2:Heap.read1 h2 ⟨bx,5,some 0⟩=some (.bool l'.set):=zr hcl
    cases o
    ·obtain ⟨h3,qm,rb3,rx3,wb,ff⟩:=same (by simp)
     cases rt
     all_goals
      simp only [show (Op2.or==Op2.minus)=false from rfl,Bool.or_false] at q2
      simp only [zp,zi,zb,yor,yos,ypa,yz,ze,zf,yf,laid,ze,←hh0,zj,zl,rbb,rq,ok_0 eh0,rb,vz,vk,vh,q1,rb1,rbb1,op2S,yir,ybk,q2,rbb2,rq2,rb2,ok_0 eh2,fm,pm,qi,rbx2,qm,rb3,rx3,wb,zx,pkA,pkB]
      exact ⟨trivial,ff _⟩
    ·obtain ⟨h3,qm,rb3,rx3,wb,ff⟩:=same (by simp)
     cases rt
     all_goals
      simp only [show (Op2.and==Op2.minus)=false from rfl,Bool.or_false] at q2
      simp only [zp,zi,zb,yor,yos,ypa,yz,ze,zf,yf,laid,ze,←hh0,zj,zl,rbb,rq,ok_0 eh0,rb,vz,vk,vh,q1,rb1,rbb1,op2S,yiw,yjh,yeu,q2,rbb2,rq2,rb2,ok_0 eh2,fm,pm,qi,rbx2,qm,rb3,rx3,wb,zx,pkA,pkB]
      exact ⟨trivial,ff _⟩
    ·obtain ⟨h3,qm,rb3,rx3,wb,ff⟩:=same (by simp)
     cases rt
     all_goals
      simp only [show (Op2.minus==Op2.minus)=true from rfl,Bool.or_true] at q2
      simp only [zp,zi,zb,yor,yos,ypa,yz,ze,zf,yf,laid,ze,←hh0,zj,zl,rbb,rq,ok_0 eh0,rb,vz,vk,vh,q1,rb1,rbb1,op2S,yit,yix,yjg,q2,rbb2,rq2,rb2,ok_0 eh2,fm,pm,qi,rbx2,qm,rb3,rx3,wb,zx,pkA,pkB]
      exact ⟨trivial,ff _⟩
    ·obtain ⟨h3,h4,qm,rb3,qm4,ff⟩:=each false (by simp)
     cases rt
     all_goals
      simp only [show (Op2.seq==Op2.minus)=false from rfl,Bool.or_false] at q2
      simp only [zp,zi,zb,yor,yos,ypa,yz,ze,zf,yf,laid,ze,←hh0,zj,zl,rbb,rq,ok_0 eh0,rb,vz,vk,vh,q1,rb1,rbb1,op2S,yim,yi7,yi9,zyb,q2,rbb2,rq2,rb2,ok_0 eh2,fm,pm,qi,qm,rb3,qm4,zx,pkA,pkB]
      exact ⟨trivial,ff _⟩
    ·obtain ⟨h3,h4,qm,rb3,qm4,ff⟩:=each true (by simp)
     cases rt
     all_goals
      simp only [show (Op2.cross==Op2.minus)=false from rfl,Bool.or_false] at q2
      simp only [zp,zi,zb,yor,yos,ypa,yz,ze,zf,yf,laid,ze,←hh0,zj,zl,rbb,rq,ok_0 eh0,rb,vz,vk,vh,q1,rb1,rbb1,op2S,yih,yiy,yi5,zyo,yji,q2,rbb2,rq2,rb2,ok_0 eh2,fm,pm,qi,qm,rb3,qm4,zx,pkA,pkB]
      exact ⟨trivial,ff _⟩
 obtain ⟨v,h',r,rfl,g⟩:=this
 exact ⟨h',r,g⟩
theorem zjo (P:RP) (kn:Kn) (rc:List Bys):∀(e:Ex) (rt:Bool),zg3 P kn rc rt e
 | .name s a w,rt=>yao P kn rc s a w rt
 | .zero a,rt=>zz5 P kn rc a rt
 | .par s a e,rt=>yei P kn rc s a e rt (zjo P kn rc e rt)
 | .box a e,rt=>yeb P kn rc a e rt (zjo P kn rc e rt)
 | .un o e,rt=>yha P kn rc o e rt (zjo P kn rc e rt)
 | .bin s o l r,rt=>ybn P kn rc s o l r rt (zjo P kn rc l rt) (zjo P kn rc r (rt || o== .minus))
theorem zzm (l:List Bys) (w:Bys) (h:l.contains w=false):za6 .str (str w) (.bool true) (rcE l)=some (rcE (l++[w])):=by
 have:=zwq (fun _=>Value.bool true) w () (l.map fun w=>(w,())) (by rw [zrz,h];rfl)
 rw [rcE,this,rcE];simp
theorem zpd (w:Bys):∀l:List Bys,l.contains w=true→za6 .str (str w) (.bool true) (rcE l)=some (rcE l)
 | [],h=>by cases h
 | v::l,h=>by
  rw [List.contains_cons] at h
  have e:rcE (v::l)=(str v,.bool true)::rcE l:=rfl
  rw [e,za6,zpk]
  cases hv:(w==v)
  ·rw [hv,ypz] at h
   simp only
   rw [zpd w l h];rfl
  ·rw [eq_of_beq hv]
def zn0 (l:List Bys) (w:Bys):List Bys:=if l.contains w then l else l++[w]
theorem yme (l:List Bys) (w:Bys):za6 .str (str w) (.bool true) (rcE l)=some (rcE (zn0 l w)):=by
 unfold zn0
 cases h:l.contains w
 ·exact zzm l w h
 ·exact zpd w l h
theorem zlb {kn:Kn} {w:Bys} (h:wn kn w=none) (b:Bool):za6 .str (str w) (.bool b) (knE kn)=some (knE (kn++[(w,b)])):=by
 rw [zh7,Option.map_eq_none_iff] at h
 have:=zwq (fun b=>Value.bool b) w b kn h
 exact this
theorem zpq {w:Bys} {b:Bool}:∀{kn:Kn},wn kn w=some b→za6 .str (str w) (.bool b) (knE kn)=some (knE kn)
 | [],h=>by cases h
 | (v,s)::kn,h=>by
  rw [wn] at h
  have e:knE ((v,s)::kn)=(str v,.bool s)::knE kn:=rfl
  rw [e,za6,zpk]
  cases hv:(w==v)
  ·rw [hv] at h
   simp only [yoy,if_false] at h
   simp only
   rw [zpq h];rfl
  ·rw [hv] at h
   simp only [if_true] at h
   cases h
   rw [eq_of_beq hv]
def zgr (kn:Kn) (here:List Bys) (n x:Nat) (w:Bys):Nat:=if x≠0 then x else if (wn kn w).isSome || here.contains w then 42 else if 64≤n then 2 else 0
def zgs (kn:Kn) (here:List Bys) (n x a p:Nat) (w:Bys):Nat:=if x≠0 then a else if (wn kn w).isSome || here.contains w then p else if 64≤n then p else 0
def KpO (P:RP) (N:Nat→Prop) (h h':Heap):Prop:=(∀(b:Nat) (o:AObj),h[b]?=some o→¬N b→b≠P.r→h'[b]?=some o)∧h.length≤h'.length
theorem zks {P:RP} {h:Heap} {i x a:Nat} (e:Rd P h i 0 x a) (c p:Nat) (hc:c≠0):∃h',DF FF yw [pt P.r,.int .i64 (c:Int),.int .i64 (p:Int)] h=some (tup [],h')∧Rd P h' i 0 (if x≠0 then x else c) (if x≠0 then a else p)∧Kp P (fun _=>False) h h':=by
 by_cases hx:x=0
 ·subst hx
  obtain ⟨h',q,e',m⟩:=zl7 e c p hc
  exact ⟨h',q,by simpa using e',m.kp fun o ho=>by rw [e'.hc,←e.hc];exact ho⟩
 ·refine ⟨h,zn2 e hx _ _,?_,Kp.refl _ _ _⟩
  rw [if_pos hx,if_pos hx];exact e
set_option maxHeartbeats 2000000 in
theorem ym4 {P:RP} {hb h:Heap} {i0 i x a q km hm n:Nat} {rm v:Value} {kn:Kn} {here:List Bys} {w:Bys} {p:Nat} (eb:Rd P hb i0 0 0 0) (hqb:hb.length≤q) (hhb:hb.length≤hm) (e:Rd P h i 0 x a) (hx:x=0→a=0) (hq:h[q]?=some (.cells [pt P.r,.map (some km),rm,.int .i64 (n:Int)] 0 false)) (hk:h[km]?=some (.map (knE kn))) (hh:h[hm]?=some (.map (rcE here))) (hn:n<1000000) (hv:∃b,v=pt b):
  ∃h',DF FF fe [pt q,agg [str w,.int .i64 (p:Int),v],.map (some hm)] h=some (tup [],h')∧Rd P h' i 0 (zgr kn here n x w) (zgs kn here n x a p w)∧h'[q]?=some (.cells [pt P.r,.map (some km),rm,.int .i64 ((n+1:Nat):Int)] 0 false)∧h'[hm]?=some (.map (rcE (zn0 here w)))∧KpO P (fun z=>z=q∨z=hm) h h':=by
 have nq:q≠P.r:=by rintro rfl;have:=e.hr.symm.trans hq;simp at this
 have nk:km≠P.r:=by rintro rfl;have:=e.hr.symm.trans hk;simp at this
 have nh:hm≠P.r:=by rintro rfl;have:=e.hr.symm.trans hh;simp at this
 have qc:q≠P.c:=by rintro rfl;have:=e.hc.symm.trans hq;simp at this
 have hc:hm≠P.c:=by rintro rfl;have:=e.hc.symm.trans hh;simp at this
 have qh:q≠hm:=by rintro rfl;have:=hq.symm.trans hh;simp at this
 have:∃v' h',DF FF fe [pt q,agg [str w,.int .i64 (p:Int),v],.map (some hm)] h=some (v',h')∧(v'=tup []∧Rd P h' i 0 (zgr kn here n x w) (zgs kn here n x a p w)∧h'[q]?=some (.cells [pt P.r,.map (some km),rm,.int .i64 ((n+1:Nat):Int)] 0 false)∧h'[hm]?=some (.map (rcE (zn0 here w)))∧KpO P (fun z=>z=q∨z=hm) h h'):=by
  refine yb zkq ?_
  obtain ⟨vb,rfl⟩:=hv
  obtain ⟨h0,hh0⟩:∃h0,h0=h++[AObj.cells [str w,.int .i64 (p:Int),pt vb] 0 false]:=⟨_,rfl⟩
  have e0:Rd P h0 i 0 x a:=by rw [hh0];exact e.more _
  have k0:Kp P (fun _=>False) h h0:=by rw [hh0];exact Kp.add _ _ _ _
  have g0:h0[h.length]?=some (.cells [str w,.int .i64 (p:Int),pt vb] 0 false):=by rw [hh0];simp
  have lr:=e.lr
  have q0:=k0.keep _ _ hq id nq
  have kk0:=k0.keep _ _ hk id nk
  have hh0':=k0.keep _ _ hh id nh
  have c1:((64:Int)≤(n:Int))=(64≤n):=by apply propext;omega
  have w1:IntKind.i64.wrap ((n:Int)+1)=((n+1:Nat):Int):=zs (by omega)
  have last:∀(K:Heap) (x' a':Nat),Rd P K i 0 x' a'→Kp P (fun _=>False) h0 K→x'=zgr kn here n x w→a'=zgs kn here n x a p w→
    Heap.read1 K ⟨q,3,some 0⟩=some (.int .i64 (n:Int))∧∃K1 K2,Heap.write1 K ⟨q,3,some 0⟩ (.int .i64 ((n+1:Nat):Int))=some K1∧Heap.read1 K1 ⟨h.length,0,some 0⟩=some (str w)∧updO K1 .str (.map (some hm)) (str w) (.bool true)=some (undef,K2)∧
     ∀u,Rd P (AM.finish h u K2) i 0 (zgr kn here n x w) (zgs kn here n x a p w)∧(AM.finish h u K2)[q]?=some (.cells [pt P.r,.map (some km),rm,.int .i64 ((n+1:Nat):Int)] 0 false)∧(AM.finish h u K2)[hm]?=some (.map (rcE (zn0 here w)))∧KpO P (fun z=>z=q∨z=hm) h (AM.finish h u K2):=by
   intro K x' a' eK kK hx' ha'
   subst hx' ha'
   have qK:=kK.keep _ _ q0 id nq
   have hK:=kK.keep _ _ hh0' id nh
   have lq:=(yoq.1 qK).1
   have lh:=(yoq.1 hK).1
   have hK1:(K.set q (.cells [pt P.r,.map (some km),rm,.int .i64 ((n+1:Nat):Int)] 0 false))[hm]?=some (.map (rcE here)):=by rw [you qh];exact hK
   have gK:=kK.keep _ _ g0 id (by omega)
   have lq0:=(yoq.1 hq).1
   have hq2:((K.set q (.cells [pt P.r,.map (some km),rm,.int .i64 ((n+1:Nat):Int)] 0 false)).set hm (.map (rcE (zn0 here w))))[q]?=some (.cells [pt P.r,.map (some km),rm,.int .i64 ((n+1:Nat):Int)] 0 false):=by rw [you (yps qh),yox lq]
   refine ⟨zr qK,_,_,by rw [jo qK (by simp)];rfl,?_,zqd _ hK1 (yme here w),?_⟩
   ·rw [yg2 (by simp;omega),zr gK];rfl
   ·intro u
    have hfin:AM.finish h u ((K.set q (.cells [pt P.r,.map (some km),rm,.int .i64 ((n+1:Nat):Int)] 0 false)).set hm (.map (rcE (zn0 here w))))=((K.set q (.cells [pt P.r,.map (some km),rm,.int .i64 ((n+1:Nat):Int)] 0 false)).set hm (.map (rcE (zn0 here w)))):=by
     rcases j5 h _ u with hf | ⟨_,hkk⟩
     ·exact hf
     ·exfalso
      have h1:=hq
      rw [←hkk,yp0,if_pos lq0,hq2] at h1
      simp at h1
      omega
    rw [hfin]
    refine ⟨?_,hq2,?_,?_,?_⟩
    ·exact eb.upd (eb.upd eK hqb _) hhb _
    ·rw [yox (by rw [yo3];exact lh)]
    ·intro b o ho n1 n2
     rw [you (fun h=>n1 (.inr h.symm)),you (fun h=>n1 (.inl h.symm))]
     exact kK.keep b o (k0.keep b o ho id n2) id n2
    ·rw [yo3,yo3];have:=k0.le;have:=kK.le;omega
  have rg:∀j,Heap.read1 h0 ⟨h.length,j,some 0⟩=([str w,.int .i64 (p:Int),pt vb]:List Value)[j]?:=fun j=>zr g0
  have rq:∀j,Heap.read1 h0 ⟨q,j,some 0⟩=([pt P.r,.map (some km),rm,.int .i64 (n:Int)]:List Value)[j]?:=fun j=>zr q0
  have lk:=zi2 h0 kk0 (.bool false) true (w:=w) (zuj kn w)
  have lrc:=zi2 h0 hh0' (.bool false) false (w:=w) (yaz here w)
  obtain ⟨K1,f1,e1,k1⟩:=zks e0 42 p (by omega)
  obtain ⟨K2,f2,e2,k2⟩:=zks e0 2 p (by omega)
  obtain ⟨K3,f3,e3,k3⟩:=zks e1 2 p (by omega)
  simp only [yov] at f1 f2 f3
  have k13:Kp P (fun _=>False) h0 K3:=(k1.trans k3).weak fun z hz=>hz.elim id id
  have rq1:∀j,Heap.read1 K1 ⟨q,j,some 0⟩=([pt P.r,.map (some km),rm,.int .i64 (n:Int)]:List Value)[j]?:=fun j=>zr (k1.keep _ _ q0 id nq)
  have rg1:∀j,Heap.read1 K1 ⟨h.length,j,some 0⟩=([str w,.int .i64 (p:Int),pt vb]:List Value)[j]?:=fun j=>zr (k1.keep _ _ g0 id (by omega))
  have rq3:∀j,Heap.read1 K3 ⟨q,j,some 0⟩=([pt P.r,.map (some km),rm,.int .i64 (n:Int)]:List Value)[j]?:=fun j=>zr (k13.keep _ _ q0 id nq)
  have rq2:∀j,Heap.read1 K2 ⟨q,j,some 0⟩=([pt P.r,.map (some km),rm,.int .i64 (n:Int)]:List Value)[j]?:=fun j=>zr (k2.keep _ _ q0 id nq)
  cases htw:((wn kn w).isSome || here.contains w)
  ·rw [ypu] at htw
   obtain ⟨t1,t2⟩:=htw
   have hl:wn kn w=none:=by simpa using t1
   rw [hl] at lk
   rw [t2] at lrc
   by_cases h64:64≤n
   ·have hX:(if x≠0 then x else 2)=zgr kn here n x w:=by unfold zgr;rw [t1,t2];simp [h64]
    have hA:(if x≠0 then a else p)=zgs kn here n x a p w:=by unfold zgs;rw [t1,t2];simp [h64]
    obtain ⟨z1,J1,J2,z2,z3,z4,z5⟩:=last K2 _ _ e2 k2 hX hA
    simp only [qv,zi,zb,yor,yos,zg,ze,zg,ze,←hh0,rg,rq,fo,lk,lrc,zld,b8,zx,yoy,if_false,if_true,c1,h64,f2,rq2,w1,z2,z3,z4,pkA,pkB]
    exact ⟨trivial,z5 _⟩
   ·have hX:x=zgr kn here n x w:=by unfold zgr;rw [t1,t2];by_cases hx0:x=0 <;> simp [h64,hx0]
    have hA:a=zgs kn here n x a p w:=by unfold zgs;rw [t1,t2];by_cases hx0:x=0 <;> simp [h64,hx0,hx]
    obtain ⟨z1,J1,J2,z2,z3,z4,z5⟩:=last h0 _ _ e0 (Kp.refl _ _ _) hX hA
    simp only [qv,zi,zb,yor,yos,zg,ze,zg,ze,←hh0,rg,rq,fo,lk,lrc,zld,b8,zx,yoy,if_false,if_true,c1,h64,w1,z2,z3,z4,pkA,pkB]
    exact ⟨trivial,z5 _⟩
  ·have hX1:(if x≠0 then x else 42)=zgr kn here n x w:=by unfold zgr;rw [htw];simp
   have hA1:(if x≠0 then a else p)=zgs kn here n x a p w:=by unfold zgs;rw [htw];simp
   have hne:(if x≠0 then x else 42)≠0:=by split <;> omega
   have hX3:(if (if x≠0 then x else 42)≠0 then (if x≠0 then x else 42) else 2)=zgr kn here n x w:=by rw [if_pos hne];exact hX1
   have hA3:(if (if x≠0 then x else 42)≠0 then (if x≠0 then a else p) else p)=zgs kn here n x a p w:=by rw [if_pos hne];exact hA1
   have two:∀Q:Prop,(∀t,wn kn w=some t→Q)→(wn kn w=none→here.contains w=true→Q)→Q:=fun Q a b=>by
    cases hl:wn kn w with
    | some t=>exact a t hl
    | none=>rw [hl] at htw;exact b hl htw
   by_cases h64:64≤n
   ·obtain ⟨z1,J1,J2,z2,z3,z4,z5⟩:=last K3 _ _ e3 k13 hX3 hA3
    refine two _ (fun t hl=> ?_) fun hl hh=> ?_
    ·rw [hl] at lk
     simp only [qv,zi,zb,yor,yos,zg,ze,zg,ze,←hh0,rg,rq,fo,lk,zld,b8,zx,if_true,c1,h64,f1,rq1,rg1,f3,rq3,w1,z2,z3,z4,pkA,pkB]
     exact ⟨trivial,z5 _⟩
    ·rw [hl] at lk
     rw [hh] at lrc
     simp only [qv,zi,zb,yor,yos,zg,ze,zg,ze,←hh0,rg,rq,fo,lk,lrc,zld,b8,zx,yoy,if_false,if_true,c1,h64,f1,rq1,rg1,f3,rq3,w1,z2,z3,z4,pkA,pkB]
     exact ⟨trivial,z5 _⟩
   ·obtain ⟨z1,J1,J2,z2,z3,z4,z5⟩:=last K1 _ _ e1 k1 hX1 hA1
    refine two _ (fun t hl=> ?_) fun hl hh=> ?_
    ·rw [hl] at lk
     simp only [qv,zi,zb,yor,yos,zg,ze,zg,ze,←hh0,rg,rq,fo,lk,zld,b8,zx,if_true,c1,h64,f1,rq1,w1,z2,z3,z4,pkA,pkB]
     exact ⟨trivial,z5 _⟩
    ·rw [hl] at lk
     rw [hh] at lrc
     simp only [qv,zi,zb,yor,yos,zg,ze,zg,ze,←hh0,rg,rq,fo,lk,lrc,zld,b8,zx,yoy,if_false,if_true,c1,h64,f1,rq1,w1,z2,z3,z4,pkA,pkB]
     exact ⟨trivial,z5 _⟩
 obtain ⟨v',h',r,rfl,g⟩:=this
 exact ⟨h',r,g⟩
theorem fi (w:Bys):∀(a b:Kn),wn (a++b) w=(wn a w).or (wn b w)
 | [],b=>rfl
 | (v,s)::a,b=>by
  rw [List.cons_append,wn,wn]
  cases (w==v)
  ·exact fi w a b
  ·rfl
theorem zgw (w:Bys) (f:Gv→Bool):∀gs:List Gv,(gs.map (·.name)).contains w=false→wn (gs.map fun g=>(g.name,f g)) w=none
 | [],h=>rfl
 | g::gs,h=>by
  rw [ypr,List.contains_cons,ypu] at h
  rw [ypr,wn,h.1,if_neg yo1]
  exact zgw w f gs h.2
theorem zmx {kn:Kn}:∀{gs:List Gv} {n:Nat} {here:List Bys},bv kn n here gs=.ok ()→∀(k:Nat) (g:Gv),gs[k]?=some g→wn kn g.name=none∧(here++(gs.take k).map (·.name)).contains g.name=false
 | [],n,here,h,k,g,hk=>by simp at hk
 | g'::gs,n,here,h,k,g,hk=>by
  rw [bv] at h
  split at h
  ·cases h
  ·rename_i h1
   split at h
   ·cases h
   ·have h1:=Bool.not_eq_true _ |>.mp h1
    rw [ypu] at h1
    cases k with
    | zero=>
     cases hk
     exact ⟨by simpa using h1.1,by simpa using h1.2⟩
    | succ k=>
     obtain ⟨a,b⟩:=zmx h k g (by simpa using hk)
     exact ⟨a,by rw [yp4] at b;simpa using b⟩
theorem znl {kn:Kn}:∀{gs:List Gv} {n:Nat} {here:List Bys},bv kn n here gs=.ok ()→n+gs.length≤64+0∨gs=[]
 | [],n,here,h=>.inr rfl
 | g'::gs,n,here,h=>by
  rw [bv] at h
  split at h
  ·cases h
  ·split at h
   ·cases h
   ·left
    rcases znl h with h' | rfl
    ·simp only [ypb];omega
    ·simp only [ypb,List.length_nil];omega
def LookR (P:RP) (i q km n:Nat) (kn:Kn) (T:Nat→Prop) (row:List Value) (h':Heap):CR Stm→Prop
 | .ok st=>StP h' T row st∧Rd P h' i 0 0 0∧(∃rm,h'[q]?=some (.cells [pt P.r,.map (some km),rm,.int .i64 ((n+st.given.length:Nat):Int)] 0 false))∧h'[km]?=some (.map (knE (kn++st.given)))
 | .bad c a=>c≠0∧Rd P h' i 0 c a
theorem KpO.keep {P:RP} {N:Nat→Prop} {h h':Heap} (k:KpO P N h h') (b:Nat) (o:AObj) (ho:h[b]?=some o) (n1:¬N b) (n2:b≠P.r):h'[b]?=some o:=k.1 b o ho n1 n2
theorem KpO.trans {P:RP} {N N':Nat→Prop} {h h' h'':Heap} (a:KpO P N h h') (b:KpO P N' h' h''):KpO P (fun z=>N z∨N' z) h h'':=
 ⟨fun x o e n1 n2=>b.1 x o (a.1 x o e (fun hh=>n1 (.inl hh)) n2) (fun hh=>n1 (.inr hh)) n2,yqf a.2 b.2⟩
theorem KpO.weak {P:RP} {N N':Nat→Prop} {h h':Heap} (a:KpO P N h h') (hs:∀z,z<h.length→N z→N' z):KpO P N' h h':=⟨fun b o e n1 n2=>a.1 b o e (fun hh=>n1 (hs b (yoq.1 e).1 hh)) n2,a.2⟩
theorem Kp.o {P:RP} {S:Nat→Prop} {h h':Heap} (k:Kp P S h h'):KpO P S h h':=⟨k.keep,k.le⟩
theorem KpO.add (P:RP) (N:Nat→Prop) (h L:Heap):KpO P N h (h++L):=(Kp.add P N h L).o
theorem KpO.set {P:RP} {N:Nat→Prop} {h h':Heap} {b:Nat} (k:KpO P N h h') (hb:N b) (o:AObj):KpO P N h (h'.set b o):=
 ⟨fun c o' ho n1 n2=>by rw [you (by rintro rfl;exact n1 hb)];exact k.1 c o' ho n1 n2,by rw [yo3];exact k.2⟩
theorem LookR.fin {P:RP} {i q km n:Nat} {kn:Kn} {T:Nat→Prop} {row:List Value} {h H:Heap} {R:CR Stm} (eh:Rd P h i 0 0 0) (hq:q<h.length) (hkm:km<h.length) (k:KpO P (fun z=>T z∨z=q∨z=km) h H) (hT:∀z,T z→z<h.length) (r:LookR P i q km n kn T row H R) (w:Value):LookR P i q km n kn T row (AM.finish h w H) R∧KpO P (fun z=>T z∨z=q∨z=km) h (AM.finish h w H):=by
 rcases j5 h H w with hf | ⟨hf,hk⟩
 ·rw [hf];exact ⟨r,k⟩
 ·rw [hf]
  have g:∀b o,b<h.length→H[b]?=some o→h[b]?=some o:=fun b o hb ho=>by
   rw [←hk,yp0,if_pos hb];exact ho
  have rd:∀x a,Rd P H i 0 x a→Rd P h i 0 x a:=fun x a e=>
   ⟨g _ _ eh.lr e.hr,g _ _ eh.lc e.hc,eh.sw,eh.sc,eh.le⟩
  refine ⟨?_,fun b o ho _ _=>ho,yoz _⟩
  cases R with
  | ok st=>
   obtain ⟨r1,r2,⟨rm,r3⟩,r4⟩:=r
   exact ⟨r1.keep fun b o hb ho=>g b o (hT b hb) ho,rd _ _ r2,⟨rm,g _ _ hq r3⟩,g _ _ hkm r4⟩
  | bad c a=>exact ⟨r.1,rd _ _ r.2⟩
def ylf (P:RP) (kn:Kn) (st:Stm):Prop:=∀(hb h:Heap) (i0 i q km n:Nat) (rm:Value) (T:Nat→Prop) (row:List Value),Rd P hb i0 0 0 0→Rd P h i 0 0 0→h[q]?=some (.cells [pt P.r,.map (some km),rm,.int .i64 (n:Int)] 0 false)→h[km]?=some (.map (knE kn))→StP h T row st→
 (∀z,T z→hb.length≤z∧z≠q∧z≠km∧z<h.length)→hb.length≤q→hb.length≤km→n<900000→(∀rc gs,st=.lets rc gs→gs.length≤8192)→
 ∃h',DF FF j1 [pt q,agg row] h=some (tup [],h')∧LookR P i q km n kn T row h' (chkS kn n st)∧KpO P (fun z=>T z∨z=q∨z=km) h h'
theorem zgf (K:Heap):lenO K nils=some (.int .i64 0,K):=rfl
theorem zpu (k:Ck):(ckS k==[114,101,99])=false:=by cases k <;> rfl
theorem zic (k:Ck):(ckS k !=[101,109,112,116,121])=(k !=.empty):=by cases k <;> rfl
set_option maxHeartbeats 4000000 in
theorem ygv (P:RP) (kn:Kn) (k:Ck) (x:Ex) (as_:Bys):ylf P kn (.chk k x as_):=by
 intro hb h i0 i q km n rm T row eb eh hq hk st hT hqb hkb hn hgs
 obtain ⟨v,rfl,tx⟩:=st
 have lq:=(yoq.1 hq).1
 have lk:=(yoq.1 hk).1
 have nq:q≠P.r:=by rintro rfl;have:=eh.hr.symm.trans hq;simp at this
 have nk:km≠P.r:=by rintro rfl;have:=eh.hr.symm.trans hk;simp at this
 have qk:q≠km:=by rintro rfl;have:=hq.symm.trans hk;simp at this
 have:∃v' h',DF FF j1 [pt q,agg [str (ckS k),nils,v,str as_]] h=some (v',h')∧(v'=tup []∧LookR P i q km n kn T [str (ckS k),nils,v,str as_] h' (chkS kn n (.chk k x as_))∧KpO P (fun z=>T z∨z=q∨z=km) h h'):=by
  refine yb zeo ?_
  obtain ⟨bx,_,_,_,_,rfl,hbT,hbx⟩:=tx.root
  obtain ⟨h0,hh0⟩:∃h0,h0=h++[AObj.cells [str (ckS k),nils,pt bx,str as_] 0 false,.map []]:=⟨_,rfl⟩
  have e0:Rd P h0 i 0 0 0:=by rw [hh0];exact eh.more _
  have k0:KpO P (fun _=>False) h h0:=by rw [hh0];exact KpO.add _ _ _ _
  have g0:h0[h.length]?=some (.cells [str (ckS k),nils,pt bx,str as_] 0 false):=by rw [hh0];simp
  have lh0:h.length<h0.length:=by rw [hh0];simp
  have lr:=eh.lr
  have q0:=k0.keep _ _ hq id nq
  have kk0:=k0.keep _ _ hk id nk
  have lq0:=(yoq.1 q0).1
  obtain ⟨h1,hh1⟩:∃h1,h1=h0.set q (.cells [pt P.r,.map (some km),.map none,.int .i64 (n:Int)] 0 false):=⟨_,rfl⟩
  have e1:Rd P h1 i 0 0 0:=by rw [hh1];exact eb.upd e0 hqb _
  have q1:h1[q]?=some (.cells [pt P.r,.map (some km),.map none,.int .i64 (n:Int)] 0 false):=by rw [hh1,yox lq0]
  have kk1:h1[km]?=some (.map (knE kn)):=by rw [hh1,you qk];exact kk0
  have g1:h1[h.length]?=some (.cells [str (ckS k),nils,pt bx,str as_] 0 false):=by rw [hh1,you (by omega)];exact g0
  have k1:KpO P (fun z=>z=q) h h1:=by rw [hh1];exact KpO.set (N:=fun z=>z=q) (k0.weak (fun _ _ h=>h.elim)) rfl _
  have w1:Heap.write1 h0 ⟨q,2,some 0⟩ (.map none)=some h1:=by rw [jo q0 (by simp),hh1];rfl
  have t1:TreeP h1 T (pt bx) x:=tx.keep fun z o hz ho=>k1.keep z o ho (hT z hz).2.1 (by have:=(hT z hz).1;have:=eb.lr;omega)
  obtain ⟨h2,c2,r2,k2⟩:=zjo P kn [] x false hb h1 i0 i q km n (.map none) T (pt bx) eb e1 ⟨q1,kk1,.inl ⟨rfl,rfl⟩⟩ t1 ⟨fun z hz=>(hT z hz).1,fun h=>(hT _ h).2.1 rfl,fun h=>(hT _ h).2.2.1 rfl,fun b hb=>by cases hb⟩ (fun z hz=>by have:=(hT z hz).2.2.2;have:=k1.2;omega)
  have lbT:=fun z (hz:T z)=>hT z hz
  have g2:=k2.keep _ _ g1 (fun h=>by have:=(hT _ h).2.2.2;omega) (by omega)
  have q2:=k2.keep _ _ q1 (fun h=>(hT _ h).2.1 rfl) nq
  have kk2:=k2.keep _ _ kk1 (fun h=>(hT _ h).2.2.1 rfl) nk
  have k12:KpO P (fun z=>T z∨z=q∨z=km) h h2:=(k1.trans k2.o).weak fun z _ hz=>hz.elim (fun h=>.inr (.inl h)) .inl
  have rg1:∀j,Heap.read1 h1 ⟨h.length,j,some 0⟩=([str (ckS k),nils,pt bx,str as_]:List Value)[j]?:=fun j=>zr g1
  have rg0:∀j,Heap.read1 h0 ⟨h.length,j,some 0⟩=([str (ckS k),nils,pt bx,str as_]:List Value)[j]?:=fun j=>zr g0
  have rg2:∀j,Heap.read1 h2 ⟨h.length,j,some 0⟩=([str (ckS k),nils,pt bx,str as_]:List Value)[j]?:=fun j=>zr g2
  have rq2:∀j,Heap.read1 h2 ⟨q,j,some 0⟩=([pt P.r,.map (some km),.map none,.int .i64 (n:Int)]:List Value)[j]?:=fun j=>zr q2
  have fa:=LookR.fin (R:=chkS kn n (.chk k x as_)) (row:=[str (ckS k),nils,pt bx,str as_]) (n:=n) (kn:=kn) eh lq lk k12 (fun z hz=>(hT z hz).2.2.2)
  cases hc:chkE kn [] false x with
  | bad ec ea=>
   rw [hc] at r2
   obtain ⟨hc0,⟨x',tx',hp⟩,e2⟩:=r2
   have hRR:chkS kn n (.chk k x as_)=.bad ec ea:=by rw [chkS,hc]
   have ff:=fa (by rw [hRR];exact ⟨hc0,e2⟩)
   obtain ⟨b',op',w',l',r',hpb,_,hbx'⟩:=tx'.root
   have hpb:bx=b':=by simpa using hpb
   subst hpb
   have rx:∀j,Heap.read1 h2 ⟨bx,j,some 0⟩=(xt op' w' x'.pl l' r' x'.set)[j]?:=fun j=>zr hbx'
   cases he:(k !=.empty)
   ·simp only [vt,zi,zb,yor,yos,yo4,yz,yqd,zg,ze,zf,yf,zcg,zg,ze,zgm,←hh0,rg0,rg1,rg2,zgf,zb1,zpu,w1,zj,zl,c2,zic,he,zx,pkA,pkB]
    exact ⟨trivial,ff _⟩
   ·cases hs:x'.set
    ·simp only [vt,zi,zb,yor,yos,yo4,yz,yqd,zg,ze,zf,yf,zcg,zg,ze,zgm,←hh0,rg0,rg1,rg2,zgf,zb1,zpu,w1,zj,zl,c2,zic,he,rx,zc1,hs,zx,pkA,pkB]
     exact ⟨trivial,ff _⟩
    ·simp only [vt,zi,zb,yor,yos,yo4,yz,yqd,zg,ze,zf,yf,zcg,zg,ze,zgm,←hh0,rg0,rg1,rg2,zgf,zb1,zpu,w1,zj,zl,c2,zic,he,rx,zc1,b6,hs,rq2,zn2 e2 hc0,zx,pkA,pkB]
     exact ⟨trivial,ff _⟩
  | ok x'=>
   rw [hc] at r2
   obtain ⟨tx',hp,e2⟩:=r2
   obtain ⟨b',op',w',l',r',hpb,_,hbx'⟩:=tx'.root
   have hpb:bx=b':=by simpa using hpb
   subst hpb
   have rx:∀j,Heap.read1 h2 ⟨bx,j,some 0⟩=(xt op' w' x'.pl l' r' x'.set)[j]?:=fun j=>zr hbx'
   cases he:(k !=.empty&&x'.set)
   ·have hRR:chkS kn n (.chk k x as_)=.ok (.chk k x' as_):=by rw [chkS,hc];simp only [he];rfl
    have ff:=fa (by
     rw [hRR]
     exact ⟨⟨pt bx,rfl,tx'⟩,e2,⟨_,q2⟩,by simpa [Stm.given] using kk2⟩)
    cases hk:(k !=.empty)
    ·simp only [vt,zi,zb,yor,yos,yo4,yz,yqd,zg,ze,zf,yf,zcg,zg,ze,zgm,←hh0,rg0,rg1,rg2,zgf,zb1,zpu,w1,zj,zl,c2,zic,hk,zx,pkA,pkB]
     exact ⟨trivial,ff _⟩
    ·rw [hk,yp2] at he
     simp only [vt,zi,zb,yor,yos,yo4,yz,yqd,zg,ze,zf,yf,zcg,zg,ze,zgm,←hh0,rg0,rg1,rg2,zgf,zb1,zpu,w1,zj,zl,c2,zic,hk,rx,zc1,he,zx,pkA,pkB]
     exact ⟨trivial,ff _⟩
   ·obtain ⟨h3,f3,e3,k3⟩:=zks e2 41 x.pl (by omega)
    simp only [yov] at f3
    have hRR:chkS kn n (.chk k x as_)=.bad 41 x.pl:=by rw [chkS,hc];simp only [he];rfl
    have k13:KpO P (fun z=>T z∨z=q∨z=km) h h3:=(k12.trans k3.o).weak fun z _ hz=>hz.elim id False.elim
    have ff:=LookR.fin (R:=chkS kn n (.chk k x as_)) (row:=[str (ckS k),nils,pt bx,str as_]) (n:=n) (kn:=kn) eh lq lk k13 (fun z hz=>(hT z hz).2.2.2) (by rw [hRR];exact ⟨by omega,by simpa using e3⟩)
    rw [ypi] at he
    simp only [vt,zi,zb,yor,yos,yo4,yz,yqd,zg,ze,zf,yf,zcg,zg,ze,zgm,←hh0,rg0,rg1,rg2,zgf,zb1,zpu,w1,zj,zl,c2,zic,he.1,rx,zc1,b6,hp,he.2,rq2,f3,zx,pkA,pkB]
    exact ⟨trivial,ff _⟩
 obtain ⟨v',h',r,rfl,g⟩:=this
 exact ⟨h',r,g⟩
/-- Behind some of the names; N: what may have been turned since h0. -/
structure LkS (P:RP) (N:Nat→Prop) (h0 K:Heap) (i q km hm b3 n:Nat) (rm:Value) (here:List Bys) (kn:Kn) (row:List Value) (x a:Nat):Prop where
 rd:Rd P K i 0 x a
 cq:K[q]?=some (.cells [pt P.r,.map (some km),rm,.int .i64 (n:Int)] 0 false)
 ck:K[km]?=some (.map (knE kn))
 ch:K[hm]?=some (.map (rcE here))
 rw:K[b3]?=some (.cells row 0 false)
 kp:KpO P N h0 K
section
variable {P:RP} {N:Nat→Prop} {h0 K:Heap} {i q km hm b3 n:Nat} {rm:Value} {here:List Bys} {kn:Kn} {row:List Value} {x a:Nat}
theorem LkS.more (l:LkS P N h0 K i q km hm b3 n rm here kn row x a) (L:Heap):LkS P N h0 (K++L) i q km hm b3 n rm here kn row x a:=
 ⟨l.rd.more L,zm L l.cq,zm L l.ck,zm L l.ch,zm L l.rw,(l.kp.trans (KpO.add P (fun _=>False) K L)).weak fun _ _ h=>h.elim id False.elim⟩
theorem LkS.weak {N':Nat→Prop} (l:LkS P N h0 K i q km hm b3 n rm here kn row x a) (hs:∀z,N z→N' z):LkS P N' h0 K i q km hm b3 n rm here kn row x a:=
 ⟨l.rd,l.cq,l.ck,l.ch,l.rw,l.kp.weak fun z _ h=>hs z h⟩
theorem LkS.ne (l:LkS P N h0 K i q km hm b3 n rm here kn row x a) (hr:row.length=4):q≠P.r∧km≠P.r∧hm≠P.r∧b3≠P.r∧q≠km∧q≠hm∧b3≠km∧b3≠hm:=by
 refine ⟨?_,?_,?_,?_,?_,?_,?_,?_⟩
 ·rintro rfl;have:=l.rd.hr.symm.trans l.cq;simp at this
 ·rintro rfl;have:=l.rd.hr.symm.trans l.ck;simp at this
 ·rintro rfl;have:=l.rd.hr.symm.trans l.ch;simp at this
 ·rintro rfl
  have:=l.rd.hr.symm.trans l.rw
  simp at this
  rw [←this] at hr;simp at hr
 ·rintro rfl;have:=l.cq.symm.trans l.ck;simp at this
 ·rintro rfl;have:=l.cq.symm.trans l.ch;simp at this
 ·rintro rfl;have:=l.rw.symm.trans l.ck;simp at this
 ·rintro rfl;have:=l.rw.symm.trans l.ch;simp at this
end
theorem GsP.focus {h:Heap}:∀{S:Nat→Prop} {vs:List Value} {gs:List Gv} {k:Nat} {g:Gv},GsP h S vs gs→gs[k]?=some g→∃v Sk,vs[k]?=some v∧TreeP h Sk v g.e∧(∀z,Sk z→S z)∧
  ∀(h':Heap) (e':Ex),TreeP h' Sk v e'→(∀b o,S b→¬Sk b→h[b]?=some o→h'[b]?=some o)→GsP h' S vs (gs.set k ⟨g.name,g.at_,e'⟩)
 | S,[],[],k,g,e,hk=>by simp at hk
 | S,v::vs,g'::gs,0,g,e,hk=>by
  obtain ⟨S1,S2,t,r,h1,h2⟩:=e
  cases hk
  refine ⟨v,S1,rfl,t,fun z hz=>(h1 z hz).1,fun h' e' t' keep=>⟨S1,S2,t',r.keep fun b o hb ho=>keep b o (h2 b hb) (fun h3=>(h1 b h3).2 hb) ho,h1,h2⟩⟩
 | S,v::vs,g'::gs,k+1,g,e,hk=>by
  obtain ⟨S1,S2,t,r,h1,h2⟩:=e
  obtain ⟨w,Sk,a,b,c,d⟩:=r.focus (k:=k) (g:=g) (by simpa using hk)
  refine ⟨w,Sk,by simpa using a,b,fun z hz=>h2 z (c z hz),fun h' e' t' keep=>⟨S1,S2,t.keep fun z o hz ho=>keep z o (h1 z hz).1 (fun h3=>(h1 z hz).2 (c z h3)) ho,d h' e' t' fun z o hz hn ho=>keep z o (h2 z hz) hn ho,h1,h2⟩⟩
 | S,[],_::_,k,g,e,hk=>e.elim
 | S,_::_,[],k,g,e,hk=>e.elim
theorem zk4 {kn:Kn} {rc:List Bys}:∀{gs l:List Gv},zaf kn rc true gs=.ok l→∀g∈l,g.e.set=false
 | [],l,h,g,hg=>by cases h;cases hg
 | g'::gs,l,h,g,hg=>by
  rw [zaf] at h
  split at h
  ·cases h
  ·rename_i y hx
   split at h
   ·cases h
   ·rename_i hs
    split at h
    ·cases h
    ·rename_i m hm
     cases h
     rcases ypx.1 hg with rfl | hg
     ·simpa using hs
     ·exact zk4 hm g hg
theorem ziv {kn:Kn} {rc:List Bys} {b:Bool}:∀{gs l:List Gv},zaf kn rc b gs=.ok l→l.map (fun g=>(g.name,g.at_))=gs.map fun g=>(g.name,g.at_)
 | [],l,h=>by cases h;rfl
 | g'::gs,l,h=>by
  rw [zaf] at h
  split at h
  ·cases h
  ·split at h
   ·cases h
   ·split at h
    ·cases h
    ·rename_i m hm
     cases h
     simp [ziv hm]
theorem zxj:∀{gs l:List Gv} (vs:List Value),l.map (fun g=>(g.name,g.at_))=gs.map (fun g=>(g.name,g.at_))→List.zipWith wv l vs=List.zipWith wv gs vs
 | [],[],vs,h=>rfl
 | [],_::_,vs,h=>by simp at h
 | _::_,[],vs,h=>by simp at h
 | g::gs,f::l,[],h=>rfl
 | g::gs,f::l,v::vs,h=>by
  simp only [ypr,List.cons.injEq,yo2] at h
  rw [List.zipWith_cons_cons,List.zipWith_cons_cons,zxj vs h.2]
  unfold wv
  rw [h.1.1,h.1.2]
theorem yfl {gs:List Gv} {vs:List Value} (hl:vs.length=gs.length) {k:Nat} {g:Gv} {v:Value} (hg:gs[k]?=some g) (hv:vs[k]?=some v):(List.zipWith wv gs vs)[k]?=some (wv g v):=by
 rw [List.getElem?_zipWith,hg,hv]
section
variable (P:RP) (h h0:Heap) (i q km n:Nat) (kn:Kn) (rc:Bool) (gs:List Gv) (s:Value) (row:List Value) (N:Nat→Prop) (R0:CR Stm)
def LkA (rm:Value) (k:Nat) (K:Heap):Prop:=∃here x a,LkS P N h0 K i q km (h.length+1) h.length (n+k) rm here kn row x a∧(x=0→a=0∧here=(gs.take k).map (·.name)∧bv kn n [] gs=bv kn (n+k) here (gs.drop k))∧(x≠0→R0=.bad x a)
def LkA1 (rm:Value) (k:Nat) (st:St):Prop:=∃K,(∃j:Nat→Value,st=⟨[pt q,j 1,j 2,pt h.length,.map (some (h.length+1)),j 5,j 6,j 7,j 8,j 9,j 10,j 11,j 12,j 13,j 14,s,.int .i64 (gs.length:Int),.int .i64 (k:Int),j 18,j 19,j 20,j 21,j 22,j 23,j 24,j 25,j 26,j 27,j 28,j 29,j 30,j 31,j 32,j 33,j 34,j 35,j 36,j 37,j 38,j 39,j 40,j 41,j 42,j 43,j 44,j 45,j 46,j 47,j 48,j 49,j 50,j 51,j 52,j 53,j 54,j 55,j 56,j 57,j 58,j 59,j 60,j 61,j 62,j 63,j 64,j 65,j 66,j 67,j 68,j 69,j 70,j 71,j 72,j 73,j 74,j 75,j 76,j 77,j 78,j 79,j 80,j 81,j 82,j 83,j 84,j 85,j 86,j 87,j 88,j 89,j 90,j 91,j 92,j 93,j 94,j 95,j 96,j 97,j 98,j 99,j 100,j 101,j 102,j 103,j 104,j 105,j 106,j 107,j 108,j 109,j 110,j 111,j 112,j 113,j 114,j 115,j 116,j 117,j 118,j 119,j 120,j 121,j 122,j 123,j 124,j 125,j 126,j 127,j 128,j 129,j 130,j 131,j 132,j 133,j 134,j 135,j 136,j 137],K⟩)∧LkA P h h0 i q km n kn gs row N R0 rm k K
def LkA2 (rm:Value) (k:Nat) (st:St):Prop:=∃K,(∃j:Nat→Value,st=⟨[pt q,j 1,j 2,pt h.length,.map (some (h.length+1)),j 5,j 6,j 7,j 8,j 9,j 10,j 11,j 12,j 13,j 14,j 15,j 16,j 17,j 18,j 19,j 20,j 21,j 22,j 23,j 24,j 25,j 26,j 27,j 28,j 29,j 30,j 31,j 32,j 33,j 34,j 35,j 36,j 37,j 38,j 39,j 40,j 41,j 42,j 43,j 44,j 45,j 46,j 47,j 48,j 49,j 50,j 51,j 52,j 53,j 54,j 55,j 56,j 57,j 58,j 59,j 60,j 61,j 62,j 63,j 64,j 65,j 66,j 67,j 68,j 69,j 70,j 71,j 72,j 73,j 74,j 75,j 76,j 77,j 78,j 79,j 80,j 81,j 82,j 83,j 84,j 85,j 86,j 87,j 88,j 89,j 90,j 91,j 92,j 93,j 94,j 95,j 96,j 97,j 98,j 99,j 100,j 101,j 102,j 103,j 104,j 105,j 106,j 107,j 108,j 109,j 110,j 111,j 112,j 113,j 114,j 115,j 116,j 117,j 118,j 119,j 120,j 121,j 122,j 123,j 124,j 125,j 126,j 127,j 128,j 129,j 130,j 131,j 132,j 133,j 134,j 135,j 136,j 137],K⟩)∧LkA P h h0 i q km n kn gs row N R0 rm k K
def LkB (rm:Value) (k:Nat) (K:Heap):Prop:=∃here kn' x a,LkS P N h0 K i q km (h.length+1) h.length (n+gs.length) rm here kn' row x a∧
 (x=0→a=0∧here=gs.map (·.name)∧kn'=kn++(gs.take k).map (fun g=>(g.name,false))∧bv kn n [] gs=.ok ())∧(x≠0→R0=.bad x a)
def LkB1 (rm:Value) (k:Nat) (st:St):Prop:=∃K,(∃j:Nat→Value,st=⟨[pt q,j 1,j 2,pt h.length,j 4,j 5,j 6,j 7,j 8,j 9,j 10,j 11,j 12,j 13,j 14,j 15,j 16,j 17,j 18,j 19,j 20,j 21,j 22,j 23,j 24,j 25,j 26,j 27,j 28,j 29,j 30,j 31,j 32,j 33,j 34,j 35,j 36,s,.int .i64 (gs.length:Int),.int .i64 (k:Int),j 40,j 41,j 42,j 43,j 44,j 45,j 46,j 47,j 48,j 49,j 50,j 51,j 52,j 53,j 54,j 55,j 56,j 57,j 58,j 59,j 60,j 61,j 62,j 63,j 64,j 65,j 66,j 67,j 68,j 69,j 70,j 71,j 72,j 73,j 74,j 75,j 76,j 77,j 78,j 79,j 80,j 81,j 82,j 83,j 84,j 85,j 86,j 87,j 88,j 89,j 90,j 91,j 92,j 93,j 94,j 95,j 96,j 97,j 98,j 99,j 100,j 101,j 102,j 103,j 104,j 105,j 106,j 107,j 108,j 109,j 110,j 111,j 112,j 113,j 114,j 115,j 116,j 117,j 118,j 119,j 120,j 121,j 122,j 123,j 124,j 125,j 126,j 127,j 128,j 129,j 130,j 131,j 132,j 133,j 134,j 135,j 136,j 137],K⟩)∧LkB P h h0 i q km n kn gs row N R0 rm k K
def LkB2 (rm:Value) (k:Nat) (st:St):Prop:=∃K,(∃j:Nat→Value,st=⟨[pt q,j 1,j 2,pt h.length,j 4,j 5,j 6,j 7,j 8,j 9,j 10,j 11,j 12,j 13,j 14,j 15,j 16,j 17,j 18,j 19,j 20,j 21,j 22,j 23,j 24,j 25,j 26,j 27,j 28,j 29,j 30,j 31,j 32,j 33,j 34,j 35,j 36,j 37,j 38,j 39,j 40,j 41,j 42,j 43,j 44,j 45,j 46,j 47,j 48,j 49,j 50,j 51,j 52,j 53,j 54,j 55,j 56,j 57,j 58,j 59,j 60,j 61,j 62,j 63,j 64,j 65,j 66,j 67,j 68,j 69,j 70,j 71,j 72,j 73,j 74,j 75,j 76,j 77,j 78,j 79,j 80,j 81,j 82,j 83,j 84,j 85,j 86,j 87,j 88,j 89,j 90,j 91,j 92,j 93,j 94,j 95,j 96,j 97,j 98,j 99,j 100,j 101,j 102,j 103,j 104,j 105,j 106,j 107,j 108,j 109,j 110,j 111,j 112,j 113,j 114,j 115,j 116,j 117,j 118,j 119,j 120,j 121,j 122,j 123,j 124,j 125,j 126,j 127,j 128,j 129,j 130,j 131,j 132,j 133,j 134,j 135,j 136,j 137],K⟩)∧LkB P h h0 i q km n kn gs row N R0 rm k K
end
def knIn (kn:Kn) (rc:Bool) (gs:List Gv):Kn:=if rc then kn++gs.map fun g=>(g.name,false) else kn
def rcIn (rc:Bool) (gs:List Gv):List Bys:=if rc then gs.map (·.name) else []
section
variable (P:RP) (h h0:Heap) (i q km n:Nat) (kn:Kn) (rc:Bool) (gs:List Gv) (vs:List Value) (S:Nat→Prop) (s:Value) (row:List Value) (N:Nat→Prop) (R0:CR Stm)
def LkC (rm:Value) (k:Nat) (K:Heap):Prop:=∃here kn' x a gs',LkS P N h0 K i q km (h.length+1) h.length (n+gs.length) rm here kn' row x a∧GsP K S vs gs'∧(gs'.map fun g=>(g.name,g.at_))=(gs.map fun g=>(g.name,g.at_))∧
 (x=0→a=0∧(rc=true→here=gs.map (·.name))∧kn'=knIn kn rc gs∧bv kn n [] gs=.ok ()∧∃l,l.length=k∧gs'=l++gs.drop k∧R0=(match zaf kn' (rcIn rc gs) rc (gs.drop k) with | .bad c a=>.bad c a | .ok m=>.ok (.lets rc (l++m)))∧(rc=true→∀g∈l,g.e.set=false))∧(x≠0→R0=.bad x a)
def LkC1 (rm:Value) (k:Nat) (st:St):Prop:=∃K,(∃j:Nat→Value,st=⟨[pt q,j 1,j 2,pt h.length,j 4,j 5,j 6,j 7,j 8,j 9,j 10,j 11,j 12,j 13,j 14,j 15,j 16,j 17,j 18,j 19,j 20,j 21,j 22,j 23,j 24,j 25,j 26,j 27,j 28,j 29,j 30,j 31,j 32,j 33,j 34,j 35,j 36,j 37,j 38,j 39,j 40,j 41,j 42,j 43,j 44,j 45,j 46,j 47,j 48,j 49,j 50,j 51,j 52,j 53,j 54,j 55,s,.int .i64 (gs.length:Int),.int .i64 (k:Int),j 59,j 60,j 61,j 62,j 63,j 64,j 65,j 66,j 67,j 68,j 69,j 70,j 71,j 72,j 73,j 74,j 75,j 76,j 77,j 78,j 79,j 80,j 81,j 82,j 83,j 84,j 85,j 86,j 87,j 88,j 89,j 90,j 91,j 92,j 93,j 94,j 95,j 96,j 97,j 98,j 99,j 100,j 101,j 102,j 103,j 104,j 105,j 106,j 107,j 108,j 109,j 110,j 111,j 112,j 113,j 114,j 115,j 116,j 117,j 118,j 119,j 120,j 121,j 122,j 123,j 124,j 125,j 126,j 127,j 128,j 129,j 130,j 131,j 132,j 133,j 134,j 135,j 136,j 137],K⟩)∧LkC P h h0 i q km n kn rc gs vs S row N R0 rm k K
def LkC2 (rm:Value) (k:Nat) (st:St):Prop:=∃K,(∃j:Nat→Value,st=⟨[pt q,j 1,j 2,pt h.length,j 4,j 5,j 6,j 7,j 8,j 9,j 10,j 11,j 12,j 13,j 14,j 15,j 16,j 17,j 18,j 19,j 20,j 21,j 22,j 23,j 24,j 25,j 26,j 27,j 28,j 29,j 30,j 31,j 32,j 33,j 34,j 35,j 36,j 37,j 38,j 39,j 40,j 41,j 42,j 43,j 44,j 45,j 46,j 47,j 48,j 49,j 50,j 51,j 52,j 53,j 54,j 55,j 56,j 57,j 58,j 59,j 60,j 61,j 62,j 63,j 64,j 65,j 66,j 67,j 68,j 69,j 70,j 71,j 72,j 73,j 74,j 75,j 76,j 77,j 78,j 79,j 80,j 81,j 82,j 83,j 84,j 85,j 86,j 87,j 88,j 89,j 90,j 91,j 92,j 93,j 94,j 95,j 96,j 97,j 98,j 99,j 100,j 101,j 102,j 103,j 104,j 105,j 106,j 107,j 108,j 109,j 110,j 111,j 112,j 113,j 114,j 115,j 116,j 117,j 118,j 119,j 120,j 121,j 122,j 123,j 124,j 125,j 126,j 127,j 128,j 129,j 130,j 131,j 132,j 133,j 134,j 135,j 136,j 137],K⟩)∧LkC P h h0 i q km n kn rc gs vs S row N R0 rm k K
def LkD (rm:Value) (k:Nat) (K:Heap):Prop:=∃here kn' x a gs',LkS P N h0 K i q km (h.length+1) h.length (n+gs.length) rm here kn' row x a∧GsP K S vs gs'∧(gs'.map fun g=>(g.name,g.at_))=(gs.map fun g=>(g.name,g.at_))∧
 (x=0→a=0∧bv kn n [] gs=.ok ()∧R0=.ok (.lets rc gs')∧(rc=true→∀g∈gs',g.e.set=false)∧kn'=(if rc then kn++x5 gs' else kn++x5 (gs'.take k)))∧(x≠0→R0=.bad x a)
def LkD1 (rm:Value) (k:Nat) (st:St):Prop:=∃K,(∃j:Nat→Value,st=⟨[pt q,j 1,j 2,pt h.length,j 4,j 5,j 6,j 7,j 8,j 9,j 10,j 11,j 12,j 13,j 14,j 15,j 16,j 17,j 18,j 19,j 20,j 21,j 22,j 23,j 24,j 25,j 26,j 27,j 28,j 29,j 30,j 31,j 32,j 33,j 34,j 35,j 36,j 37,j 38,j 39,j 40,j 41,j 42,j 43,j 44,j 45,j 46,j 47,j 48,j 49,j 50,j 51,j 52,j 53,j 54,j 55,j 56,j 57,j 58,j 59,j 60,j 61,j 62,j 63,j 64,j 65,j 66,j 67,j 68,j 69,j 70,j 71,j 72,j 73,j 74,j 75,j 76,j 77,j 78,j 79,j 80,j 81,j 82,j 83,j 84,j 85,j 86,j 87,s,.int .i64 (gs.length:Int),.int .i64 (k:Int),j 91,j 92,j 93,j 94,j 95,j 96,j 97,j 98,j 99,j 100,j 101,j 102,j 103,j 104,j 105,j 106,j 107,j 108,j 109,j 110,j 111,j 112,j 113,j 114,j 115,j 116,j 117,j 118,j 119,j 120,j 121,j 122,j 123,j 124,j 125,j 126,j 127,j 128,j 129,j 130,j 131,j 132,j 133,j 134,j 135,j 136,j 137],K⟩)∧LkD P h h0 i q km n kn rc gs vs S row N R0 rm k K
def LkD2 (rm:Value) (k:Nat) (st:St):Prop:=∃K,(∃j:Nat→Value,st=⟨[pt q,j 1,j 2,pt h.length,j 4,j 5,j 6,j 7,j 8,j 9,j 10,j 11,j 12,j 13,j 14,j 15,j 16,j 17,j 18,j 19,j 20,j 21,j 22,j 23,j 24,j 25,j 26,j 27,j 28,j 29,j 30,j 31,j 32,j 33,j 34,j 35,j 36,j 37,j 38,j 39,j 40,j 41,j 42,j 43,j 44,j 45,j 46,j 47,j 48,j 49,j 50,j 51,j 52,j 53,j 54,j 55,j 56,j 57,j 58,j 59,j 60,j 61,j 62,j 63,j 64,j 65,j 66,j 67,j 68,j 69,j 70,j 71,j 72,j 73,j 74,j 75,j 76,j 77,j 78,j 79,j 80,j 81,j 82,j 83,j 84,j 85,j 86,j 87,j 88,j 89,j 90,j 91,j 92,j 93,j 94,j 95,j 96,j 97,j 98,j 99,j 100,j 101,j 102,j 103,j 104,j 105,j 106,j 107,j 108,j 109,j 110,j 111,j 112,j 113,j 114,j 115,j 116,j 117,j 118,j 119,j 120,j 121,j 122,j 123,j 124,j 125,j 126,j 127,j 128,j 129,j 130,j 131,j 132,j 133,j 134,j 135,j 136,j 137],K⟩)∧LkD P h h0 i q km n kn rc gs vs S row N R0 rm k K
end
theorem ztj (rc:Bool):(kwOf rc==[114,101,99])=rc:=by cases rc <;> rfl
theorem pv {α:Type} {l:List α} {k:Nat} {x:α} (h:l[k]?=some x):l.drop k=x::l.drop (k+1):=by
 have hk:=(yoq.1 h).1
 rw [ypo hk]
 rw [yow hk] at h
 rw [yqc h]
theorem zq1 {α:Type} {l:List α} {k:Nat} {x:α} (h:l[k]?=some x):l.take (k+1)=l.take k++[x]:=by
 rw [List.take_add_one,h];rfl
section
variable {kn:Kn} {here:List Bys} {n x a p:Nat} {w:Bys}
theorem zr3 (h:¬x=0):zgr kn here n x w=x∧zgs kn here n x a p w=a:=by unfold zgr zgs;simp [h]
theorem zrl (h:x=0) (t:((wn kn w).isSome || here.contains w)=true):zgr kn here n x w=42∧zgs kn here n x a p w=p:=by unfold zgr zgs;rw [t];simp [h]
theorem zrd (h:x=0) (t:((wn kn w).isSome || here.contains w)=false) (t2:64≤n):zgr kn here n x w=2∧zgs kn here n x a p w=p:=by unfold zgr zgs;rw [t];simp [h,t2]
theorem zxo (h:x=0) (t:((wn kn w).isSome || here.contains w)=false) (t2:¬64≤n):zgr kn here n x w=0∧zgs kn here n x a p w=0:=by unfold zgr zgs;rw [t];simp [h,t2]
end
theorem yhq {P:RP} {hb h h0 K:Heap} {i0 i q km n k:Nat} {kn:Kn} {gs:List Gv} {row:List Value} {N:Nat→Prop} {R0:CR Stm} {rm:Value} {g:Gv} {b:Nat} (eb:Rd P hb i0 0 0 0) (hqb:hb.length≤q) (hhb:hb.length≤h.length) (hql:q<h.length) (hkl:km<h.length) (hr:row.length=4) (hn:n+k<1000000) (hNq:N q) (hNh:N (h.length+1)) (hRF:∀c a,bv kn n [] gs=.bad c a→R0=.bad c a) (e:LkA P h h0 i q km n kn gs row N R0 rm k K) (hg:gs[k]?=some g):
  ∃K',DF FF fe [pt q,agg (wv g (pt b)),.map (some (h.length+1))] (K++[.cells (wv g (pt b)) 0 false])=some (tup [],K')∧LkA P h h0 i q km n kn gs row N R0 rm (k+1) K':=by
 obtain ⟨here,x,a,l,f1,f2⟩:=e
 have l':=l.more [.cells (wv g (pt b)) 0 false]
 obtain ⟨nq,nk,nh,n3,qk,qh,b3k,b3h⟩:=l.ne hr
 obtain ⟨K',q',e',cq',ch',k'⟩:=ym4 (w:=g.name) (p:=g.at_) (v:=pt b) eb hqb (Nat.le_succ_of_le hhb) l'.rd (fun h=>(f1 h).1) l'.cq l'.ck l'.ch hn ⟨b,rfl⟩
 have hpure:∀(x0:x=0),bv kn n [] gs=(if (wn kn g.name).isSome || here.contains g.name then CR.bad 42 g.at_ else if 64≤n+k then .bad 2 g.at_ else bv kn (n+(k+1)) (here++[g.name]) (gs.drop (k+1))):=fun x0=>by
  rw [(f1 x0).2.2,pv hg,bv]
  rfl
 refine ⟨K',q',zn0 here g.name,_,_,⟨e',cq',k'.1 _ _ l'.ck (fun h=>h.elim (yps qk) (by omega)) nk,ch',k'.1 _ _ l'.rw (fun h=>h.elim (by omega) (by omega)) n3,(l'.kp.trans k').weak fun z _ hz=>hz.elim id fun h=>h.elim (by rintro rfl;exact hNq) (by rintro rfl;exact hNh)⟩,?_,?_⟩
 ·intro hx
  by_cases x0:x=0
  ·have hp:=hpure x0
   cases t1:((wn kn g.name).isSome || here.contains g.name)
   ·rw [t1,if_neg yo1] at hp
    by_cases t2:64≤n+k
    ·rw [(zrd (a:=a) (p:=g.at_) x0 t1 t2).1] at hx;cases hx
    ·rw [if_neg t2] at hp
     rw [ypu] at t1
     refine ⟨(zxo (a:=a) (p:=g.at_) x0 (by rw [ypu];exact t1) t2).2,?_,?_⟩
     ·unfold zn0
      rw [t1.2,if_neg yo1,(f1 x0).2.1,zq1 hg];simp
     ·unfold zn0
      rw [t1.2,if_neg yo1];exact hp
   ·rw [(zrl (a:=a) (p:=g.at_) x0 t1).1] at hx;cases hx
  ·rw [(zr3 (a:=a) (p:=g.at_) (kn:=kn) (here:=here) (n:=n+k) (w:=g.name) x0).1] at hx;exact absurd hx x0
 ·intro hx
  by_cases x0:x=0
  ·have hp:=hpure x0
   cases t1:((wn kn g.name).isSome || here.contains g.name)
   ·rw [t1,if_neg yo1] at hp
    by_cases t2:64≤n+k
    ·rw [(zrd (a:=a) (p:=g.at_) x0 t1 t2).1,(zrd (a:=a) (p:=g.at_) x0 t1 t2).2];rw [if_pos t2] at hp;exact hRF _ _ hp
    ·rw [(zxo (a:=a) (p:=g.at_) x0 t1 t2).1] at hx;exact absurd rfl hx
   ·rw [t1,if_pos rfl] at hp
    rw [(zrl (a:=a) (p:=g.at_) x0 t1).1,(zrl (a:=a) (p:=g.at_) x0 t1).2];exact hRF _ _ hp
  ·rw [(zr3 (a:=a) (p:=g.at_) (kn:=kn) (here:=here) (n:=n+k) (w:=g.name) x0).1,(zr3 (a:=a) (p:=g.at_) (kn:=kn) (here:=here) (n:=n+k) (w:=g.name) x0).2];exact f2 x0
theorem yga {P:RP} {hb h h0 K:Heap} {i0 i q km n k:Nat} {kn:Kn} {gs:List Gv} {row:List Value} {N:Nat→Prop} {R0:CR Stm} {rm:Value} {g:Gv} {b:Nat} (eb:Rd P hb i0 0 0 0) (hkb:hb.length≤km) (hql:q<h.length) (hkl:km<h.length) (hr:row.length=4) (hNk:N km) (e:LkB P h h0 i q km n kn gs row N R0 rm k K) (hg:gs[k]?=some g):
  ∃x a,Rd P (K++[.cells (wv g (pt b)) 0 false]) i 0 x a∧Heap.read1 (K++[.cells (wv g (pt b)) 0 false]) ⟨q,0,some 0⟩=some (pt P.r)∧Heap.read1 (K++[.cells (wv g (pt b)) 0 false]) ⟨q,1,some 0⟩=some (.map (some km))∧
   ((x≠0∧LkB P h h0 i q km n kn gs row N R0 rm (k+1) (K++[.cells (wv g (pt b)) 0 false]))∨(x=0∧∃K',updO (K++[.cells (wv g (pt b)) 0 false]) .str (.map (some km)) (str g.name) (.bool false)=some (undef,K')∧LkB P h h0 i q km n kn gs row N R0 rm (k+1) K')):=by
 obtain ⟨here,kn',x,a,l,f1,f2⟩:=e
 have l':=l.more [.cells (wv g (pt b)) 0 false]
 obtain ⟨nq,nk,nh,n3,qk,qh,b3k,b3h⟩:=l.ne hr
 refine ⟨x,a,l'.rd,zr l'.cq,zr l'.cq,?_⟩
 by_cases x0:x=0
 ·right
  refine ⟨x0,?_⟩
  obtain ⟨a0,h1,h2,h4⟩:=f1 x0
  obtain ⟨g1,g2⟩:=zmx h4 k g hg
  have hnew:wn kn' g.name=none:=by
   rw [h2,fi,g1,zgw _ (fun _=>false) _ (by simpa using g2)];rfl
  have hu:=zqd _ l'.ck (zlb hnew false)
  have lk:=(yoq.1 l'.ck).1
  refine ⟨_,hu,here,kn'++[(g.name,false)],x,a,⟨eb.upd l'.rd hkb _,by rw [you (yps qk)];exact l'.cq,by rw [yox lk],by rw [you (by omega)];exact l'.ch,by rw [you (by omega)];exact l'.rw,l'.kp.set hNk _⟩,fun _=>⟨a0,h1,?_,h4⟩,fun h=>absurd x0 h⟩
  rw [h2,zq1 hg];simp
 ·exact .inl ⟨x0,here,kn',x,a,l',fun h=>absurd h x0,f2⟩
theorem LkA.rm {P:RP} {hb h h0 K:Heap} {i0 i q km n k:Nat} {kn:Kn} {gs:List Gv} {row:List Value} {N:Nat→Prop} {R0:CR Stm} {rm:Value} (eb:Rd P hb i0 0 0 0) (hqb:hb.length≤q) (hql:q<h.length) (hr:row.length=4) (hNq:N q) (e:LkA P h h0 i q km n kn gs row N R0 rm k K) (rm':Value):
  ∃K1,Heap.write1 K ⟨q,2,some 0⟩ rm'=some K1∧LkA P h h0 i q km n kn gs row N R0 rm' k K1:=by
 obtain ⟨here,x,a,l,f1,f2⟩:=e
 obtain ⟨nq,nk,nh,n3,qk,qh,b3k,b3h⟩:=l.ne hr
 have lq:=(yoq.1 l.cq).1
 exact ⟨K.set q (.cells [pt P.r,.map (some km),rm',.int .i64 ((n+k:Nat):Int)] 0 false),by rw [jo l.cq (by simp)];rfl,here,x,a,⟨eb.upd l.rd hqb _,by rw [yox lq],by rw [you qk];exact l.ck,by rw [you (by omega)];exact l.ch,by rw [you (by omega)];exact l.rw,l.kp.set hNq _⟩,f1,f2⟩
theorem LkA.row {P:RP} {h h0 K:Heap} {i q km n k:Nat} {kn:Kn} {gs:List Gv} {row:List Value} {N:Nat→Prop} {R0:CR Stm} {rm:Value} (e:LkA P h h0 i q km n kn gs row N R0 rm k K):K[h.length]?=some (.cells row 0 false)∧KpO P N h0 K:=by
 obtain ⟨here,x,a,l,f1,f2⟩:=e;exact ⟨l.rw,l.kp⟩
theorem LkB.row {P:RP} {h h0 K:Heap} {i q km n k:Nat} {kn:Kn} {gs:List Gv} {row:List Value} {N:Nat→Prop} {R0:CR Stm} {rm:Value} (e:LkB P h h0 i q km n kn gs row N R0 rm k K):K[h.length]?=some (.cells row 0 false)∧KpO P N h0 K:=by
 obtain ⟨here,kn',x,a,l,f1,f2⟩:=e;exact ⟨l.rw,l.kp⟩
theorem LkC.row {P:RP} {h h0 K:Heap} {i q km n k:Nat} {kn:Kn} {rc:Bool} {gs:List Gv} {vs:List Value} {S:Nat→Prop} {row:List Value} {N:Nat→Prop} {R0:CR Stm} {rm:Value} (e:LkC P h h0 i q km n kn rc gs vs S row N R0 rm k K):K[h.length]?=some (.cells row 0 false)∧KpO P N h0 K:=by
 obtain ⟨here,kn',x,a,gs',l,f1,f2⟩:=e;exact ⟨l.rw,l.kp⟩
theorem LkD.row {P:RP} {h h0 K:Heap} {i q km n k:Nat} {kn:Kn} {rc:Bool} {gs:List Gv} {vs:List Value} {S:Nat→Prop} {row:List Value} {N:Nat→Prop} {R0:CR Stm} {rm:Value} (e:LkD P h h0 i q km n kn rc gs vs S row N R0 rm k K):K[h.length]?=some (.cells row 0 false)∧KpO P N h0 K:=by
 obtain ⟨here,kn',x,a,gs',l,f1,f2⟩:=e;exact ⟨l.rw,l.kp⟩
theorem zya {P:RP} {hb h h0 K:Heap} {i0 i q km n k:Nat} {kn:Kn} {rc:Bool} {gs:List Gv} {vs:List Value} {S:Nat→Prop} {row:List Value} {N:Nat→Prop} {R0:CR Stm} {rm:Value} {g:Gv} {v:Value} (eb:Rd P hb i0 0 0 0) (hhb:hb.length≤h.length) (hqb:hb.length≤q) (hkb:hb.length≤km) (hql:q<h.length) (hkl:km<h.length) (hr:row.length=4) (hNS:∀z,S z→N z) (hS:∀z,S z→hb.length≤z∧z≠q∧z≠km∧z<h.length) (hrm:rm=if rc then .map (some (h.length+1)) else .map none) (hK0:h.length+1<h0.length)
  (e:LkC P h h0 i q km n kn rc gs vs S row N R0 rm k K) (hg:gs[k]?=some g) (hv:vs[k]?=some v):
  ∃b K2 t pl,v=pt b∧DF FF yh [pt q,v,.bool false] (K++[.cells (wv g v) 0 false])=some (tup [],K2)∧K2[K.length]?=some (.cells (wv g v) 0 false)∧K2[h.length]?=some (.cells row 0 false)∧Heap.read1 K2 ⟨q,0,some 0⟩=some (pt P.r)∧Heap.read1 K2 ⟨b,5,some 0⟩=some (.bool t)∧Heap.read1 K2 ⟨b,2,some 0⟩=some (.int .i64 (pl:Int))∧
   (((rc&&t)=false∧LkC P h h0 i q km n kn rc gs vs S row N R0 rm (k+1) K2)∨((rc&&t)=true∧∃K3,DF FF yw [pt P.r,.int .i64 41,.int .i64 (pl:Int)] K2=some (tup [],K3)∧LkC P h h0 i q km n kn rc gs vs S row N R0 rm (k+1) K3)):=by
 obtain ⟨here,kn',x,a,gs',l,G,hnm,f1,f2⟩:=e
 have lK:h0.length≤K.length:=l.kp.2
 have hkl':k<gs.length:=(yoq.1 hg).1
 have hlen:gs'.length=gs.length:=by have:=congrArg List.length hnm;simpa using this
 obtain ⟨g',hg'⟩:∃g',gs'[k]?=some g':=⟨_,yow (by omega)⟩
 have hgn:g'.name=g.name∧g'.at_=g.at_:=by
  have:=congrArg (·[k]?) hnm
  simp only [yp1,hg,hg',yp6] at this
  simpa using this
 obtain ⟨nq,nk,nh,n3,qk,qh,b3k,b3h⟩:=l.ne hr
 have l1:=l.more [.cells (wv g v) 0 false]
 have G1:GsP (K++[.cells (wv g v) 0 false]) S vs gs':=G.keep fun b o _ ho=>zm _ ho
 obtain ⟨v',Sk,hv',tk,hSk,back⟩:=G1.focus hg'
 have:v'=v:=by rw [hv] at hv';exact (yqc hv').symm
 subst this
 obtain ⟨b,op1,w1,l1',r1,rfl,hbSk,hbo⟩:=tk.root
 have hbS:=hSk b hbSk
 have nr:∀z,S z→z≠P.r:=fun z hz=>by have:=(hS z hz).1;have:=eb.lr;omega
 have hlast:(K++[AObj.cells (wv g (pt b)) 0 false])[K.length]?=some (.cells (wv g (pt b)) 0 false):=by simp
 have nm:∀e',((gs'.set k ⟨g'.name,g'.at_,e'⟩).map fun g=>(g.name,g.at_))=gs.map fun g=>(g.name,g.at_):=fun e'=>by
  rw [←hnm,List.map_set]
  apply List.ext_getElem?
  intro j
  by_cases hj:k=j
  ·subst hj
   rw [yox (by simp;omega),yp1,hg'];rfl
  ·rw [you hj]
 by_cases x0:x=0
 ·obtain ⟨a0,h1,h2,h3,lst,hll,hgs,hR,hset⟩:=f1 x0
  subst x0 a0
  have hgg:g'=g:=by
   have h5:gs'[k]?=gs[k]?:=by
    rw [hgs,ypn (by omega),hll,Nat.sub_self,List.getElem?_drop,yqe]
   rw [hg',hg] at h5;exact yqc h5
  subst hgg
  have ch:Ch P (K++[.cells (wv g' (pt b)) 0 false]) q km rm (n+gs.length) kn' (rcIn rc gs):=⟨l1.cq,l1.ck,by
   cases hrc:rc
   ·rw [hrc] at hrm;exact .inl ⟨hrm,rfl⟩
   ·rw [hrc] at hrm;refine .inr ⟨h.length+1,hrm,?_⟩
    have:=h1 hrc
    have hc:=l1.ch
    rw [this] at hc
    exact hc⟩
  obtain ⟨K2,c2,r2,k2⟩:=zjo P kn' (rcIn rc gs) g'.e false hb _ i0 i q km (n+gs.length) rm Sk (pt b) eb l1.rd ch tk ⟨fun z hz=>(hS z (hSk z hz)).1,fun h=>(hS _ (hSk _ h)).2.1 rfl,fun h=>(hS _ (hSk _ h)).2.2.1 rfl,fun b' hb' h'=>by
    cases hrc:rc
    ·rw [hrm,hrc] at hb';cases hb'
    ·rw [hrm,hrc] at hb';simp at hb';have:=(hS _ (hSk _ h')).2.2.2;omega⟩ (fun z hz=>by have:=(hS z (hSk z hz)).2.2.2;simp;omega)
  have keep:=fun z o (hz:¬Sk z) (hr:z≠P.r) ho=>k2.keep z o ho hz hr
  have nSk:∀z,h.length≤z→¬Sk z:=fun z hz h'=>by have:=(hS z (hSk z h')).2.2.2;omega
  have l2:∀x' a',Rd P K2 i 0 x' a'→LkS P N h0 K2 i q km (h.length+1) h.length (n+gs.length) rm here kn' row x' a':=fun x' a' e2=>
   ⟨e2,keep _ _ (fun h=>(hS _ (hSk _ h)).2.1 rfl) nq l1.cq,keep _ _ (fun h=>(hS _ (hSk _ h)).2.2.1 rfl) nk l1.ck,keep _ _ (nSk _ (by omega)) nh l1.ch,keep _ _ (nSk _ (by omega)) n3 l1.rw,(l1.kp.trans k2.o).weak fun z _ hz=>hz.elim id fun h=>hNS z (hSk z h)⟩
  have row2:=keep _ _ (nSk _ (by have:=lK;omega)) (by have:=l.rd.lr;omega) hlast
  have hR2:R0=(match chkE kn' (rcIn rc gs) false g'.e with | .bad c a=>CR.bad c a | .ok x=>if rc&&x.set then .bad 41 g'.e.pl else (match zaf kn' (rcIn rc gs) rc (gs.drop (k+1)) with | .bad c a=>.bad c a | .ok m=>.ok (.lets rc (lst++(⟨g'.name,g'.at_,x⟩::m))))):=by
   rw [hR,pv hg,zaf]
   cases chkE kn' (rcIn rc gs) false g'.e with
   | bad c a=>rfl
   | ok y=>
    simp only
    by_cases t:(rc&&y.set)=true
    ·rw [if_pos t,if_pos t]
    ·rw [if_neg t,if_neg t]
     cases zaf kn' (rcIn rc gs) rc (gs.drop (k+1))<;> rfl
  have GB:∀e',TreeP K2 Sk (pt b) e'→GsP K2 S vs (gs'.set k ⟨g'.name,g'.at_,e'⟩):=fun e' t'=>back K2 e' t' fun z o hz hn ho=>keep z o hn (nr z hz) ho
  cases hc:chkE kn' (rcIn rc gs) false g'.e with
  | bad c ca=>
   rw [hc] at r2 hR2
   obtain ⟨hc0,⟨e',t',hp⟩,e2⟩:=r2
   obtain ⟨b',op',w',l',r',hpb,_,hbx'⟩:=t'.root
   have hpb:b=b':=by simpa using hpb
   subst hpb
   refine ⟨b,K2,e'.set,e'.pl,rfl,c2,row2,(l2 _ _ e2).rw,zr (l2 _ _ e2).cq,zr hbx',zr hbx',?_⟩
   have L2:LkC P h h0 i q km n kn rc gs vs S row N R0 rm (k+1) K2:=⟨here,kn',c,ca,_,l2 _ _ e2,GB e' t',nm e',fun h=>absurd h hc0,fun _=>hR2⟩
   cases ht:(rc&&e'.set)
   ·exact .inl ⟨rfl,L2⟩
   ·exact .inr ⟨rfl,K2,zn2 e2 hc0 _ _,L2⟩
  | ok y=>
   rw [hc] at r2 hR2
   obtain ⟨t',hp,e2⟩:=r2
   obtain ⟨b',op',w',l',r',hpb,_,hbx'⟩:=t'.root
   have hpb:b=b':=by simpa using hpb
   subst hpb
   refine ⟨b,K2,y.set,y.pl,rfl,c2,row2,(l2 _ _ e2).rw,zr (l2 _ _ e2).cq,zr hbx',zr hbx',?_⟩
   cases ht:(rc&&y.set)
   ·simp only [ht,yoy,if_false] at hR2
    refine .inl ⟨rfl,here,kn',0,0,_,l2 _ _ e2,GB y t',nm y,fun _=>⟨rfl,h1,h2,h3,lst++[⟨g'.name,g'.at_,y⟩],by simp [hll],?_,by rw [hR2];cases zaf kn' (rcIn rc gs) rc (gs.drop (k+1))<;> simp,?_⟩,fun h=>absurd rfl h⟩
    ·rw [hgs,List.set_append_right _ _ (by omega),hll,Nat.sub_self,pv hg];simp
    ·intro hrc g2 hg2
     rcases ype.1 hg2 with hg2 | hg2
     ·exact hset hrc g2 hg2
     ·simp at hg2;subst hg2;rw [hrc,yp2] at ht;exact ht
   ·simp only [ht,if_true] at hR2
    obtain ⟨K3,q3,e3,m3⟩:=zl7 e2 41 y.pl (by omega)
    have k3:=(m3.kp fun o ho=>by rw [e3.hc,←e2.hc];exact ho)
    refine .inr ⟨rfl,K3,q3,here,kn',41,y.pl,_,⟨e3,k3.keep _ _ (l2 _ _ e2).cq id nq,k3.keep _ _ (l2 _ _ e2).ck id nk,k3.keep _ _ (l2 _ _ e2).ch id nh,k3.keep _ _ (l2 _ _ e2).rw id n3,((l2 _ _ e2).kp.trans k3.o).weak fun z _ hz=>hz.elim id False.elim⟩,(GB y t').keep fun z o hz ho=>k3.keep z o ho id (nr z hz),nm y,fun h=>by omega,fun _=> ?_⟩
    rw [hp];exact hR2
 ·refine ⟨b,_,g'.e.set,g'.e.pl,rfl,zx3 l1.rd x0 l1.cq b false,hlast,l1.rw,zr l1.cq,zr hbo,zr hbo,?_⟩
  have L2:LkC P h h0 i q km n kn rc gs vs S row N R0 rm (k+1) (K++[.cells (wv g (pt b)) 0 false]):=⟨here,kn',x,a,gs',l1,G1,hnm,fun h=>absurd h x0,f2⟩
  cases ht:(rc&&g'.e.set)
  ·exact .inl ⟨rfl,L2⟩
  ·exact .inr ⟨rfl,_,zn2 l1.rd x0 _ _,L2⟩
theorem zxv {P:RP} {hb h h0 K:Heap} {i0 i q km n k:Nat} {kn:Kn} {rc:Bool} {gs:List Gv} {vs:List Value} {S:Nat→Prop} {row:List Value} {N:Nat→Prop} {R0:CR Stm} {rm:Value} {g:Gv} {v:Value} (eb:Rd P hb i0 0 0 0) (hkb:hb.length≤km) (hql:q<h.length) (hkl:km<h.length) (hr:row.length=4) (hNk:N km) (hS:∀z,S z→hb.length≤z∧z≠q∧z≠km∧z<h.length)
  (e:LkD P h h0 i q km n kn rc gs vs S row N R0 rm k K) (hg:gs[k]?=some g) (hv:vs[k]?=some v):
  ∃b x a t,v=pt b∧Rd P (K++[.cells (wv g v) 0 false]) i 0 x a∧Heap.read1 (K++[.cells (wv g v) 0 false]) ⟨q,0,some 0⟩=some (pt P.r)∧Heap.read1 (K++[.cells (wv g v) 0 false]) ⟨q,1,some 0⟩=some (.map (some km))∧Heap.read1 (K++[.cells (wv g v) 0 false]) ⟨b,5,some 0⟩=some (.bool t)∧
   ((x≠0∧LkD P h h0 i q km n kn rc gs vs S row N R0 rm (k+1) (K++[.cells (wv g v) 0 false]))∨(x=0∧∃K',updO (K++[.cells (wv g v) 0 false]) .str (.map (some km)) (str g.name) (.bool t)=some (undef,K')∧LkD P h h0 i q km n kn rc gs vs S row N R0 rm (k+1) K')):=by
 obtain ⟨here,kn',x,a,gs',l,G,hnm,f1,f2⟩:=e
 have hkl':k<gs.length:=(yoq.1 hg).1
 have hlen:gs'.length=gs.length:=by have:=congrArg List.length hnm;simpa using this
 obtain ⟨g',hg'⟩:∃g',gs'[k]?=some g':=⟨_,yow (by omega)⟩
 have hgn:g'.name=g.name∧g'.at_=g.at_:=by
  have:=congrArg (·[k]?) hnm
  simp only [yp1,hg,hg',yp6] at this
  simpa using this
 obtain ⟨nq,nk,nh,n3,qk,qh,b3k,b3h⟩:=l.ne hr
 have l1:=l.more [.cells (wv g v) 0 false]
 have G1:GsP (K++[.cells (wv g v) 0 false]) S vs gs':=G.keep fun b o _ ho=>zm _ ho
 obtain ⟨v',Sk,hv',tk,hSk⟩:=G1.get k g' hg'
 have:v'=v:=by rw [hv] at hv';exact (yqc hv').symm
 subst this
 obtain ⟨b,op1,w1,l1',r1,rfl,hbSk,hbo⟩:=tk.root
 refine ⟨b,x,a,g'.e.set,rfl,l1.rd,zr l1.cq,zr l1.cq,zr hbo,?_⟩
 by_cases x0:x=0
 ·right
  obtain ⟨a0,h3,h4,h5,h6⟩:=f1 x0
  refine ⟨x0,?_⟩
  have lk:=(yoq.1 l1.ck).1
  have hgk:=yp3 hg'
  have fin:∀kn2,za6 .str (str g.name) (.bool g'.e.set) (knE kn')=some (knE kn2)→kn2=(if rc then kn++x5 gs' else kn++x5 (gs'.take (k+1)))→∃K',updO (K++[.cells (wv g (pt b)) 0 false]) .str (.map (some km)) (str g.name) (.bool g'.e.set)=some (undef,K')∧LkD P h h0 i q km n kn rc gs vs S row N R0 rm (k+1) K':=fun kn2 hs hk2=>
   ⟨_,zqd _ l1.ck hs,here,kn2,x,a,gs',⟨eb.upd l1.rd hkb _,by rw [you (yps qk)];exact l1.cq,by rw [yox lk],by rw [you (by omega)];exact l1.ch,by rw [you (by omega)];exact l1.rw,l1.kp.set hNk _⟩,G1.keep fun z o hz ho=>by rw [you (yps (hS z hz).2.2.1)];exact ho,hnm,fun _=>⟨a0,h3,h4,h5,hk2⟩,fun h=>absurd x0 h⟩
  cases hrc:rc
  ·rw [hrc,if_neg yo1] at h6
   obtain ⟨g1,g2⟩:=zmx h3 k g hg
   have hnew:wn kn' g.name=none:=by
    rw [h6,fi,g1]
    have hnames:(gs'.take k).map (·.name)=(gs.take k).map (·.name):=by
     have:=congrArg (fun l=>(l.take k).map (·.1)) hnm
     simpa [List.map_take,List.map_map,Function.comp_def] using this
    have:wn (x5 (gs'.take k)) g.name=none:=zgw _ (fun g=>g.e.set) _ (by rw [hnames];simpa using g2)
    rw [this];rfl
   rw [hrc] at fin
   refine fin _ (zlb hnew _) ?_
   rw [if_neg yo1,h6,zq1 hg',x5,x5,yp8,hgn.1.symm];simp
  ·rw [hrc,if_pos rfl] at h6
   rw [hrc] at fin
   have hs:=h5 hrc g' hgk
   refine fin kn' (zpq ?_) (by rw [if_pos rfl,h6])
   obtain ⟨g1,g2⟩:=zmx h3 k g hg
   rw [h6,fi,g1,hs]
   have hsp:x5 gs'=x5 (gs'.take k)++(g'.name,g'.e.set)::x5 (gs'.drop (k+1)):=by
    unfold x5
    rw [←ypr (f:=fun g:Gv=>(g.name,g.e.set)),←yp8,←pv hg',List.take_append_drop]
   have hnames:(gs'.take k).map (·.name)=(gs.take k).map (·.name):=by
    have:=congrArg (fun l=>(l.take k).map (·.1)) hnm
    simpa [List.map_take,List.map_map,Function.comp_def] using this
   have:wn (x5 (gs'.take k)) g.name=none:=zgw _ (fun g=>g.e.set) _ (by rw [hnames];simpa using g2)
   rw [hsp,fi,this,wn,hgn.1,hs];simp
 ·exact .inl ⟨x0,here,kn',x,a,gs',l1,G1,hnm,fun h=>absurd h x0,f2⟩
theorem kf (g:Gv) (v:Value):(wv g v).length=3:=by simp [wv]
theorem zha (g:Gv) (v:Value):(wv g v)[0]?=some (str g.name):=rfl
theorem zgu (g:Gv) (v:Value):(wv g v)[2]?=some v:=rfl
theorem zxw {P:RP} {h h0 K:Heap} {i q km n:Nat} {kn:Kn} {rc:Bool} {gs:List Gv} {vs:List Value} {S:Nat→Prop} {row:List Value} {N N':Nat→Prop} {rm:Value} (hN:∀z,N z→N' z) (hc:GsP K S vs gs)
  (hrc:(rc=true∧LkB P h h0 i q km n kn gs row N (chkS kn n (.lets rc gs)) rm gs.length K)∨(rc=false∧LkA P h h0 i q km n kn gs row N (chkS kn n (.lets rc gs)) rm gs.length K)):LkC P h h0 i q km n kn rc gs vs S row N' (chkS kn n (.lets rc gs)) rm 0 K:=by
 have hR:bv kn n [] gs=.ok ()→chkS kn n (.lets rc gs)=(match zaf (knIn kn rc gs) (rcIn rc gs) rc (gs.drop 0) with | .bad c a=>.bad c a | .ok m=>.ok (.lets rc ([]++m))):=fun hf=>by
  rw [chkS,hf,List.drop_zero]
  unfold knIn rcIn
  simp only
  cases zaf (if rc=true then kn++gs.map (fun g=>(g.name,false)) else kn) (if rc=true then gs.map (·.name) else []) rc gs <;> rfl
 rcases hrc with ⟨rfl,here,kn',x,a,l,f1,f2⟩ | ⟨rfl,here,x,a,l,f1,f2⟩
 ·refine ⟨here,kn',x,a,gs,l.weak hN,hc,rfl,fun x0=> ?_,f2⟩
  obtain ⟨a0,h1,h2,h3⟩:=f1 x0
  have hk:kn'=knIn kn true gs:=by rw [h2,ypq];rfl
  exact ⟨a0,fun _=>h1,hk,h3,[],rfl,by simp,by rw [hk];exact hR h3,fun _ g hg=>by cases hg⟩
 ·refine ⟨here,kn,x,a,gs,l.weak hN,hc,rfl,fun x0=> ?_,f2⟩
  obtain ⟨a0,h1,h3⟩:=f1 x0
  rw [yp5] at h3
  exact ⟨a0,(fun h=>by cases h),rfl,h3,[],rfl,by simp,hR h3,fun _ g hg=>by cases hg⟩
theorem yee {P:RP} {h h0 K:Heap} {i q km n:Nat} {kn:Kn} {rc:Bool} {gs:List Gv} {vs:List Value} {S:Nat→Prop} {row:List Value} {N:Nat→Prop} {R0:CR Stm} {rm:Value} (e:LkC P h h0 i q km n kn rc gs vs S row N R0 rm gs.length K):LkD P h h0 i q km n kn rc gs vs S row N R0 rm 0 K:=by
 obtain ⟨here,kn',x,a,gs',l,G,hnm,f1,f2⟩:=e
 refine ⟨here,kn',x,a,gs',l,G,hnm,fun x0=> ?_,f2⟩
 obtain ⟨a0,h1,h2,h3,lst,hll,hgs,hR,hset⟩:=f1 x0
 rw [yp5,ypl] at hgs
 rw [yp5,zaf] at hR
 subst hgs
 refine ⟨a0,h3,by rw [hR];simp,hset,?_⟩
 rw [h2]
 unfold knIn
 cases hrc:rc
 ·simp [x5]
 ·rw [if_pos rfl,if_pos rfl]
  have hn:gs.map (·.name)=gs'.map (·.name):=by
   have:=congrArg (List.map (·.1)) hnm
   simpa [List.map_map,Function.comp_def] using this.symm
  have:gs.map (fun g=>(g.name,false))=x5 gs':=by
   have e1:gs.map (fun g=>(g.name,false))=(gs.map (·.name)).map fun w=>(w,false):=by simp
   have e2:x5 gs'=(gs'.map (·.name)).map fun w=>(w,false):=by
    unfold x5
    rw [List.map_map]
    apply List.map_congr_left
    intro g hg
    simp [hset hrc g hg]
   rw [e1,e2,hn]
  rw [this]
set_option maxHeartbeats 8000000 in
theorem yfq (P:RP) (kn:Kn) (rc:Bool) (gs:List Gv):ylf P kn (.lets rc gs):=by
 intro hb h i0 i q km n rm T row eb eh hq hk st hT hqb hkb hn hgs
 obtain ⟨s,vs,S,rfl,hsl,hG,hS,hbs⟩:=st
 have hlen:gs.length≤8192:=hgs rc gs rfl
 have lq:=(yoq.1 hq).1
 have lk:=(yoq.1 hk).1
 have lr:=eh.lr
 have hhb:hb.length≤h.length:=by omega
 have nq:q≠P.r:=by rintro rfl;have:=eh.hr.symm.trans hq;simp at this
 have nk:km≠P.r:=by rintro rfl;have:=eh.hr.symm.trans hk;simp at this
 have hvl:=hG.len
 have lens:∀K,lenO K s=some (.int .i64 (gs.length:Int),K):=fun K=>by rw [hsl.len,zgy hvl]
 have hS':∀z,S z→hb.length≤z∧z≠q∧z≠km∧z<h.length:=fun z hz=>hT z (hS z hz).1
 have:∃v' h',DF FF j1 [pt q,agg [str (kwOf rc),s,nilP,str []]] h=some (v',h')∧(v'=tup []∧LookR P i q km n kn T [str (kwOf rc),s,nilP,str []] h' (chkS kn n (.lets rc gs))∧KpO P (fun z=>T z∨z=q∨z=km) h h'):=by
  refine yb zeo ?_
  obtain ⟨row,hrow⟩:∃row,row=[str (kwOf rc),s,nilP,str []]:=⟨_,rfl⟩
  have hr4:row.length=4:=by rw [hrow];rfl
  obtain ⟨h0,hh0⟩:∃h0,h0=h++[AObj.cells [str (kwOf rc),s,nilP,str []] 0 false,.map []]:=⟨_,rfl⟩
  have e0:Rd P h0 i 0 0 0:=by rw [hh0];exact eh.more _
  have k0:KpO P (fun _=>False) h h0:=by rw [hh0];exact KpO.add _ _ _ _
  have g0:h0[h.length]?=some (.cells row 0 false):=by rw [hh0,hrow];simp
  have gm0:h0[h.length+1]?=some (.map []):=by rw [hh0];simp
  have lh0:h.length+1<h0.length:=by rw [hh0];simp
  obtain ⟨N,hN⟩:∃N:Nat→Prop,N=fun z=>z=q∨z=km∨z=h.length+1∨S z:=⟨_,rfl⟩
  have hNq:N q:=by rw [hN];exact .inl rfl
  have hNk:N km:=by rw [hN];exact .inr (.inl rfl)
  have hNh:N (h.length+1):=by rw [hN];exact .inr (.inr (.inl rfl))
  obtain ⟨M,hM⟩:∃M:Nat→Prop,M=fun z=>z=q∨z=km∨z=h.length+1:=⟨_,rfl⟩
  have hMq:M q:=by rw [hM];exact .inl rfl
  have hMk:M km:=by rw [hM];exact .inr (.inl rfl)
  have hMh:M (h.length+1):=by rw [hM];exact .inr (.inr rfl)
  have hMN:∀z,M z→N z:=fun z hz=>by rw [hM] at hz;rw [hN];exact hz.imp id fun h=>h.imp id .inl
  have GK:∀K,KpO P M h0 K→GsP K S vs gs:=fun K kK=>hG.keep fun z o hz ho=>kK.keep z o (k0.keep z o ho id (by have:=(hS' z hz).1;have:=eb.lr;omega)) (by
   rw [hM];have h1:=hS' z hz
   rintro (h2 | h2 | h2)
   ·exact h1.2.1 h2
   ·exact h1.2.2.1 h2
   ·omega) (by have:=(hS' z hz).1;have:=eb.lr;omega)
  have hNS:∀z,S z→N z:=fun z hz=>by rw [hN];exact .inr (.inr (.inr hz))
  obtain ⟨R0,hR0⟩:∃R0,R0=chkS kn n (.lets rc gs):=⟨_,rfl⟩
  have hRF:∀c a,bv kn n [] gs=.bad c a→R0=.bad c a:=fun c a hf=>by rw [hR0,chkS,hf]
  have LA0:LkA P h h0 i q km n kn gs row M R0 rm 0 h0:=⟨[],0,0,⟨e0,k0.keep _ _ hq id nq,k0.keep _ _ hk id nk,gm0,g0,⟨fun b o ho _ _=>ho,yoz _⟩⟩,fun _=>⟨rfl,rfl,rfl⟩,fun h=>absurd rfl h⟩
  have slK:∀K,KpO P N h0 K→Sl K s 3 (List.zipWith wv gs vs):=fun K kK=>hsl.keep fun b hb' o ho=>kK.keep b o (k0.keep b o ho id (by have:=(hT b (hbs b hb')).1;have:=eb.lr;omega)) (by
   rw [hN]
   have h1:=hT b (hbs b hb')
   rintro (h2 | h2 | h2 | h2)
   ·exact h1.2.1 h2
   ·exact h1.2.2.1 h2
   ·omega
   ·exact (hS b h2).2 hb') (by have:=(hT b (hbs b hb')).1;have:=eb.lr;omega)
  have hvb:∀k,k<gs.length→∃g b,gs[k]?=some g∧vs[k]?=some (pt b)∧(∀K,KpO P N h0 K→∃b' o v,(∀H',rowO H' 3 s (.int .i64 (k:Int))=some (.pointer (some ⟨b',o,some v⟩),H'))∧Heap.read K ⟨b',o,some v⟩ 3=some (wv g (pt b))):=fun k hk=>by
   have hg:gs[k]?=some gs[k]:=yow hk
   obtain ⟨v,Sk,hv,tk,_⟩:=hG.get k gs[k] hg
   obtain ⟨b,_,_,_,_,rfl,_,_⟩:=tk.root
   refine ⟨gs[k],b,hg,hv,fun K kK=> ?_⟩
   obtain ⟨b',o,v,a1,a2⟩:=(slK K kK).atH (k:=k) (by rw [zgy hvl];exact hk)
   refine ⟨b',o,v,a1,?_⟩
   rw [a2]
   have:=yfl hvl hg hv
   rw [yow (by rw [zgy hvl];exact hk)] at this
   exact this
  have rg0:∀j,Heap.read1 h0 ⟨h.length,j,some 0⟩=([str (kwOf rc),s,nilP,str []]:List Value)[j]?:=fun j=>by rw [←hrow];exact zr g0
  have hrk:∀K,K[h.length]?=some (.cells row 0 false)→∀j,Heap.read1 K ⟨h.length,j,some 0⟩=([str (kwOf rc),s,nilP,str []]:List Value)[j]?:=fun K hK j=>by rw [←hrow];exact zr hK
  simp only [vt,zb,yor,yos,zg,ze,zf,zg,ze,zgm,←hh0,rg0,lens,pkA,pkB]
  refine jv 0 gs.length (LkA1 P h h0 i q km n kn gs s row M R0 rm) (LkA2 P h h0 i q km n kn gs row M R0 rm gs.length) ?_ ?_ _ ⟨h0,junk rfl,LA0⟩ ?_
  ·rintro k st hk' ⟨K,⟨j,rfl⟩,e⟩
   obtain ⟨g,b,hg,hv,hat⟩:=hvb k hk'
   obtain ⟨b',o,v,a1,a2⟩:=hat K (e.row.2.weak fun z _ h=>hMN z h)
   obtain ⟨K',q',e'⟩:=yhq (b:=b) eb hqb hhb lq lk hr4 (by omega) hMq hMh hRF e hg
   have h1:((k:Int)<(gs.length:Int))=True:=by simp;omega
   simp only [zb,yor,zc,h1,a1,a2,kf,q',zs (k:=k) (by omega),pkA,pkB]
   exact ⟨K',junk rfl,e'⟩
  ·rintro st ⟨K,⟨j,rfl⟩,e⟩
   have h1:((gs.length:Int)<(gs.length:Int))=False:=by simp
   simp only [zb,x8,zq,h1,x8,pkA]
   exact ⟨K,junk rfl,e⟩
  rintro st ⟨K,⟨j,rfl⟩,e⟩
  obtain ⟨K1,w1,e1⟩:=e.rm eb hqb lq hr4 hMq (.map none)
  have toLast:∀K rm',LkD P h h0 i q km n kn rc gs vs S row N R0 rm' gs.length K→∀w,LookR P i q km n kn T [str (kwOf rc),s,nilP,str []] (AM.finish h w K) (chkS kn n (.lets rc gs))∧KpO P (fun z=>T z∨z=q∨z=km) h (AM.finish h w K):=by
   intro K rm' e w
   obtain ⟨here,kn',x,a,gs',l,G,hnm,f1,f2⟩:=e
   have kk:KpO P (fun z=>T z∨z=q∨z=km) h K:=(k0.trans l.kp).weak fun z hz hz'=>hz'.elim False.elim fun h2=>by
    rw [hN] at h2
    rcases h2 with h2 | h2 | h2 | h2
    ·exact .inr (.inl h2)
    ·exact .inr (.inr h2)
    ·omega
    ·exact .inl (hS z h2).1
   refine LookR.fin eh lq lk kk (fun z hz=>(hT z hz).2.2.2) ?_ w
   rw [←hR0]
   by_cases x0:x=0
   ·obtain ⟨a0,h3,h4,h5,h6⟩:=f1 x0
    subst x0 a0
    have hgl:gs'.length=gs.length:=by have:=congrArg List.length hnm;simpa using this
    have hk6:kn'=kn++x5 gs':=by rw [h6,←hgl,ypq];simp
    rw [h4]
    refine ⟨⟨s,vs,S,rfl,?_,G,hS,hbs⟩,l.rd,⟨rm',?_⟩,?_⟩
    ·rw [zxj vs hnm];exact slK K l.kp
    ·have:(Stm.lets rc gs').given.length=gs.length:=by simp [Stm.given,x5,hgl]
     rw [this];exact l.cq
    ·have:=l.ck;rw [hk6] at this;exact this
   ·rw [f2 x0];exact ⟨x0,l.rd⟩
  have rm_ok:∀K rm',LkC P h h0 i q km n kn rc gs vs S row N R0 rm' 0 K→True:=fun _ _ _=>trivial
  cases hrc:rc
  ·subst hrc
   have hrg:=hrk K1 e1.row.1
   simp only [zb,yf,(show Heap.write1 K ⟨q,2,some 0⟩ (.map none)=some K1 from w1),hrg,ztj,lens,pkA,pkB]
   have e3:LkC P h h0 i q km n kn false gs vs S row N R0 (.map none) 0 K1:=by
    rw [hR0] at e1 ⊢
    exact zxw hMN (GK K1 e1.row.2) (.inr ⟨rfl,e1⟩)
   have hrm3:(.map none:Value)=if false then .map (some (h.length+1)) else .map none:=rfl
   refine jv 4 gs.length (LkC1 P h h0 i q km n kn false gs vs S s row N R0 (.map none)) (LkC2 P h h0 i q km n kn false gs vs S row N R0 (.map none) gs.length) ?_ ?_ _ ⟨K1,junk rfl,e3⟩ ?_
   ·rintro k st hk' ⟨K,⟨j,rfl⟩,e⟩
    obtain ⟨g,b,hg,hv,hat⟩:=hvb k hk'
    obtain ⟨b',o,v,a1,a2⟩:=hat K e.row.2
    obtain ⟨b2,K2',t,pl,hpb,c2,row2,rw2,rq2,rt5,rt2,fin⟩:=zya eb hhb hqb hkb lq lk hr4 hNS hS' hrm3 lh0 e hg hv
    have hpb:b=b2:=by simpa using hpb
    subst hpb
    have h1:((k:Int)<(gs.length:Int))=True:=by simp;omega
    rcases fin with ⟨ht,e'⟩ | ⟨ht,K3',hf,e'⟩
    ·simp only [zi,zb,yor,zc,yf,h1,a1,a2,kf,zgu,c2,hrk _ rw2,ztj,zs (k:=k) (by omega),pkA,pkB]
     exact ⟨_,junk rfl,e'⟩
    ·rw [Bool.false_and] at ht;cases ht
   ·rintro st ⟨K,⟨j,rfl⟩,e⟩
    have h1:((gs.length:Int)<(gs.length:Int))=False:=by simp
    simp only [zb,x8,zq,h1,x8,pkA]
    exact ⟨K,junk rfl,e⟩
   rintro st ⟨K4,⟨j,rfl⟩,eC4⟩
   have hrg4:=hrk K4 eC4.row.1
   have eD:=yee eC4
   simp only [zb,hrg4,lens,pkA,pkB]
   refine jv 6 gs.length (LkD1 P h h0 i q km n kn false gs vs S s row N R0 (.map none)) (LkD2 P h h0 i q km n kn false gs vs S row N R0 (.map none) gs.length) ?_ ?_ _ ⟨K4,junk rfl,eD⟩ ?_
   ·rintro k st hk' ⟨K,⟨j,rfl⟩,e⟩
    obtain ⟨g,b,hg,hv,hat⟩:=hvb k hk'
    obtain ⟨b',o,v,a1,a2⟩:=hat K e.row.2
    obtain ⟨b2,x,a,t,hpb,rd',rq0,rq1,rt5,fin⟩:=zxv eb hkb lq lk hr4 hNk hS' e hg hv
    have hpb:b=b2:=by simpa using hpb
    subst hpb
    have h1:((k:Int)<(gs.length:Int))=True:=by simp;omega
    rcases fin with ⟨hx,e'⟩ | ⟨rfl,K',hu,e'⟩
    ·simp only [zb,yor,zc,h1,a1,a2,kf,rq0,fz rd' hx,zs (k:=k) (by omega),pkA,pkB]
     exact ⟨_,junk rfl,e'⟩
    ·simp only [zb,yor,zc,h1,a1,a2,kf,rq0,rq1,ok_0 rd',zha,zgu,rt5,b8,hu,zs (k:=k) (by omega),pkA,pkB]
     exact ⟨_,junk rfl,e'⟩
   ·rintro st ⟨K,⟨j,rfl⟩,e⟩
    have h1:((gs.length:Int)<(gs.length:Int))=False:=by simp
    simp only [zb,x8,zq,h1,x8,pkA]
    exact ⟨K,junk rfl,e⟩
   rintro st ⟨K5,⟨j,rfl⟩,eD5⟩
   have hrg5:=hrk K5 eD5.row.1
   simp only [zb,yo4,yz,hrg5,xm,zl,zx,pkA,pkB]
   exact ⟨trivial,toLast K5 _ eD5 _⟩
  ·subst hrc
   obtain ⟨K2,w2,e2⟩:=e1.rm eb hqb lq hr4 hMq (.map (some (h.length+1)))
   have hrg:=hrk K1 e1.row.1
   have hrg2:=hrk K2 e2.row.1
   simp only [zb,yf,(show Heap.write1 K ⟨q,2,some 0⟩ (.map none)=some K1 from w1),hrg,hrg2,ztj,w2,lens,pkA,pkB]
   have eB:LkB P h h0 i q km n kn gs row M R0 (.map (some (h.length+1))) 0 K2:=by
    obtain ⟨here,x,a,l,f1,f2⟩:=e2
    exact ⟨here,kn,x,a,l,fun x0=>by
     obtain ⟨a0,h1,h2⟩:=f1 x0
     rw [ypq] at h1
     rw [yp5] at h2
     exact ⟨a0,h1,by simp,h2⟩,f2⟩
   refine jv 2 gs.length (LkB1 P h h0 i q km n kn gs s row M R0 (.map (some (h.length+1)))) (LkB2 P h h0 i q km n kn gs row M R0 (.map (some (h.length+1))) gs.length) ?_ ?_ _ ⟨K2,junk rfl,eB⟩ ?_
   ·rintro k st hk' ⟨K,⟨j,rfl⟩,e⟩
    obtain ⟨g,b,hg,hv,hat⟩:=hvb k hk'
    obtain ⟨b',o,v,a1,a2⟩:=hat K (e.row.2.weak fun z _ h=>hMN z h)
    obtain ⟨x,a,rd',rq0,rq1,fin⟩:=yga (b:=b) eb hkb lq lk hr4 hMk e hg
    have h1:((k:Int)<(gs.length:Int))=True:=by simp;omega
    rcases fin with ⟨hx,e'⟩ | ⟨rfl,K',hu,e'⟩
    ·simp only [zb,yor,zc,h1,a1,a2,kf,rq0,fz rd' hx,zs (k:=k) (by omega),pkA,pkB]
     exact ⟨_,junk rfl,e'⟩
    ·simp only [zb,yor,zc,h1,a1,a2,kf,rq0,rq1,ok_0 rd',zha,b8,hu,zs (k:=k) (by omega),pkA,pkB]
     exact ⟨_,junk rfl,e'⟩
   ·rintro st ⟨K,⟨j,rfl⟩,e⟩
    have h1:((gs.length:Int)<(gs.length:Int))=False:=by simp
    simp only [zb,x8,zq,h1,x8,pkA]
    exact ⟨K,junk rfl,e⟩
   rintro st ⟨K3,⟨j,rfl⟩,eB3⟩
   have hrg3:=hrk K3 eB3.row.1
   simp only [zb,hrg3,lens,pkA,pkB]
   have e3:LkC P h h0 i q km n kn true gs vs S row N R0 (.map (some (h.length+1))) 0 K3:=by
    rw [hR0] at eB3 ⊢
    exact zxw hMN (GK K3 eB3.row.2) (.inl ⟨rfl,eB3⟩)
   have hrm3:(.map (some (h.length+1)):Value)=if true then .map (some (h.length+1)) else .map none:=rfl
   refine jv 4 gs.length (LkC1 P h h0 i q km n kn true gs vs S s row N R0 (.map (some (h.length+1)))) (LkC2 P h h0 i q km n kn true gs vs S row N R0 (.map (some (h.length+1))) gs.length) ?_ ?_ _ ⟨K3,junk rfl,e3⟩ ?_
   ·rintro k st hk' ⟨K,⟨j,rfl⟩,e⟩
    obtain ⟨g,b,hg,hv,hat⟩:=hvb k hk'
    obtain ⟨b',o,v,a1,a2⟩:=hat K e.row.2
    obtain ⟨b2,K2',t,pl,hpb,c2,row2,rw2,rq2,rt5,rt2,fin⟩:=zya eb hhb hqb hkb lq lk hr4 hNS hS' hrm3 lh0 e hg hv
    have hpb:b=b2:=by simpa using hpb
    subst hpb
    have h1:((k:Int)<(gs.length:Int))=True:=by simp;omega
    have rr2:∀j,Heap.read1 K2' ⟨K.length,j,some 0⟩=(wv g (pt b))[j]?:=fun j=>zr row2
    rw [yp2] at fin
    rcases fin with ⟨ht,e'⟩ | ⟨ht,K3',hf,e'⟩
    ·rw [ht] at rt5
     simp only [zi,zb,yor,zc,yf,h1,a1,a2,kf,zgu,c2,hrk _ rw2,ztj,rr2,rt5,zs (k:=k) (by omega),pkA,pkB]
     exact ⟨_,junk rfl,e'⟩
    ·rw [ht] at rt5
     simp only [zi,zb,yor,zc,yf,h1,a1,a2,kf,zgu,c2,hrk _ rw2,ztj,rr2,rt5,rq2,rt2,hf,zs (k:=k) (by omega),pkA,pkB]
     exact ⟨_,junk rfl,e'⟩
   ·rintro st ⟨K,⟨j,rfl⟩,e⟩
    have h1:((gs.length:Int)<(gs.length:Int))=False:=by simp
    simp only [zb,x8,zq,h1,x8,pkA]
    exact ⟨K,junk rfl,e⟩
   rintro st ⟨K4,⟨j,rfl⟩,eC4⟩
   have hrg4:=hrk K4 eC4.row.1
   have eD:=yee eC4
   simp only [zb,hrg4,lens,pkA,pkB]
   refine jv 6 gs.length (LkD1 P h h0 i q km n kn true gs vs S s row N R0 (.map (some (h.length+1)))) (LkD2 P h h0 i q km n kn true gs vs S row N R0 (.map (some (h.length+1))) gs.length) ?_ ?_ _ ⟨K4,junk rfl,eD⟩ ?_
   ·rintro k st hk' ⟨K,⟨j,rfl⟩,e⟩
    obtain ⟨g,b,hg,hv,hat⟩:=hvb k hk'
    obtain ⟨b',o,v,a1,a2⟩:=hat K e.row.2
    obtain ⟨b2,x,a,t,hpb,rd',rq0,rq1,rt5,fin⟩:=zxv eb hkb lq lk hr4 hNk hS' e hg hv
    have hpb:b=b2:=by simpa using hpb
    subst hpb
    have h1:((k:Int)<(gs.length:Int))=True:=by simp;omega
    rcases fin with ⟨hx,e'⟩ | ⟨rfl,K',hu,e'⟩
    ·simp only [zb,yor,zc,h1,a1,a2,kf,rq0,fz rd' hx,zs (k:=k) (by omega),pkA,pkB]
     exact ⟨_,junk rfl,e'⟩
    ·simp only [zb,yor,zc,h1,a1,a2,kf,rq0,rq1,ok_0 rd',zha,zgu,rt5,b8,hu,zs (k:=k) (by omega),pkA,pkB]
     exact ⟨_,junk rfl,e'⟩
   ·rintro st ⟨K,⟨j,rfl⟩,e⟩
    have h1:((gs.length:Int)<(gs.length:Int))=False:=by simp
    simp only [zb,x8,zq,h1,x8,pkA]
    exact ⟨K,junk rfl,e⟩
   rintro st ⟨K5,⟨j,rfl⟩,eD5⟩
   have hrg5:=hrk K5 eD5.row.1
   simp only [zb,yo4,yz,hrg5,xm,zl,zx,pkA,pkB]
   exact ⟨trivial,toLast K5 _ eD5 _⟩
 obtain ⟨v',h',r,rfl,g⟩:=this
 exact ⟨h',r,g⟩
theorem zf9 (d:Bys×Bool):(zw d).length=2:=by simp [zw]
theorem zty (d:Bys×Bool):(zw d)[0]?=some (str d.1):=rfl
theorem ya5 (d:Bys×Bool):(zw d)[1]?=some (.bool d.2):=rfl
theorem zsv (z0 z1:Value) (d:Bys×Bool):yp [z0,z1] [(0,2,agg (zw d))]=some (zw d):=by
 rw [yp,zg];simp [splice,yp,zw]
theorem StsP.focus {h:Heap}:∀{T:Nat→Prop} {rows:List (List Value)} {l:List Stm} {k:Nat} {s:Stm},StsP h T rows l→l[k]?=some s→∃row Tk,rows[k]?=some row∧StP h Tk row s∧(∀z,Tk z→T z)∧
  ∀(h':Heap) (s':Stm),StP h' Tk row s'→(∀b o,T b→¬Tk b→h[b]?=some o→h'[b]?=some o)→StsP h' T rows (l.set k s')
 | T,[],[],k,s,e,hk=>by simp at hk
 | T,r::rows,s'::l,0,s,e,hk=>by
  obtain ⟨S1,S2,t,q,h1,h2⟩:=e
  cases hk
  exact ⟨r,S1,rfl,t,fun z hz=>(h1 z hz).1,fun h' s2 t' keep=>⟨S1,S2,t',q.keep fun b o hb ho=>keep b o (h2 b hb) (fun h3=>(h1 b h3).2 hb) ho,h1,h2⟩⟩
 | T,r::rows,s'::l,k+1,s,e,hk=>by
  obtain ⟨S1,S2,t,q,h1,h2⟩:=e
  obtain ⟨w,Tk,a,b,c,d⟩:=q.focus (k:=k) (s:=s) (by simpa using hk)
  exact ⟨w,Tk,by simpa using a,b,fun z hz=>h2 z (c z hz),fun h' s2 t' keep=>⟨S1,S2,t.keep fun z o hz ho=>keep z o (h1 z hz).1 (fun h3=>(h1 z hz).2 (c z h3)) ho,d h' s2 t' fun z o hz hn ho=>keep z o (h2 z hz) hn ho,h1,h2⟩⟩
 | T,[],_::_,k,s,e,hk=>e.elim
 | T,_::_,[],k,s,e,hk=>e.elim
structure NmS (P:RP) (mb q km:Nat) (H5 K:Heap) (names:Kn) (k:Nat) (ss:Value):Prop where
 ex:∃kn ks x y z,ks=.slice x y z∧K[km]?=some (.map (knE kn))∧K[mb]?=some (.cells [ks,ss] 0 false)∧Own [] K ks 2 (kn.map zw)∧(∀b,blk ks=some b→H5.length≤b)∧fg [] names=fg kn (names.drop k)∧kn.length≤k
 kp:(∀(b:Nat) (o:AObj),H5[b]?=some o→b≠mb→b≠km→K[b]?=some o)∧H5.length≤K.length
 cq:K[q]?=H5[q]?
def NmI (P:RP) (mb q km:Nat) (H5:Heap) (names:Kn) (ns ss:Value) (k:Nat) (st:St):Prop:=∃K,(∃j:Nat→Value,st=⟨[j 0,j 1,j 2,j 3,j 4,j 5,j 6,j 7,j 8,j 9,pt P.r,pt mb,pt q,j 13,j 14,j 15,j 16,j 17,j 18,j 19,j 20,j 21,j 22,j 23,j 24,j 25,j 26,j 27,j 28,j 29,j 30,j 31,j 32,j 33,j 34,j 35,j 36,j 37,j 38,j 39,j 40,j 41,j 42,j 43,j 44,j 45,j 46,j 47,j 48,j 49,j 50,j 51,j 52,j 53,j 54,j 55,j 56,j 57,j 58,j 59,j 60,j 61,j 62,j 63,j 64,j 65,ns,.int .i64 (names.length:Int),.int .i64 (k:Int),j 69,j 70,j 71,j 72,j 73,j 74,j 75,j 76,j 77,j 78,j 79,j 80,j 81,j 82,j 83,j 84,j 85,j 86,j 87,j 88,j 89,j 90,j 91,j 92,j 93,j 94,j 95,j 96,j 97,j 98,j 99,j 100,j 101,j 102,j 103,j 104,j 105,j 106,j 107,j 108,j 109,j 110,j 111,j 112,j 113,j 114,j 115,j 116,j 117,j 118,j 119,j 120,j 121,j 122,j 123,j 124,j 125,j 126,j 127,j 128,j 129,j 130],K⟩)∧NmS P mb q km H5 K names k ss
def NmO (P:RP) (mb q km:Nat) (H5:Heap) (names:Kn) (ss:Value) (k:Nat) (st:St):Prop:=∃K,(∃j:Nat→Value,st=⟨[j 0,j 1,j 2,j 3,j 4,j 5,j 6,j 7,j 8,j 9,pt P.r,pt mb,pt q,j 13,j 14,j 15,j 16,j 17,j 18,j 19,j 20,j 21,j 22,j 23,j 24,j 25,j 26,j 27,j 28,j 29,j 30,j 31,j 32,j 33,j 34,j 35,j 36,j 37,j 38,j 39,j 40,j 41,j 42,j 43,j 44,j 45,j 46,j 47,j 48,j 49,j 50,j 51,j 52,j 53,j 54,j 55,j 56,j 57,j 58,j 59,j 60,j 61,j 62,j 63,j 64,j 65,j 66,j 67,j 68,j 69,j 70,j 71,j 72,j 73,j 74,j 75,j 76,j 77,j 78,j 79,j 80,j 81,j 82,j 83,j 84,j 85,j 86,j 87,j 88,j 89,j 90,j 91,j 92,j 93,j 94,j 95,j 96,j 97,j 98,j 99,j 100,j 101,j 102,j 103,j 104,j 105,j 106,j 107,j 108,j 109,j 110,j 111,j 112,j 113,j 114,j 115,j 116,j 117,j 118,j 119,j 120,j 121,j 122,j 123,j 124,j 125,j 126,j 127,j 128,j 129,j 130],K⟩)∧NmS P mb q km H5 K names k ss
theorem yif {P:RP} {mb q km:Nat} {H5 K:Heap} {names:Kn} {k:Nat} {ss:Value} {d:Bys×Bool} {nn:Value} (hq:H5[q]?=some (.cells [pt P.r,.map (some km),.map none,nn] 0 false)) (hqm:q≠mb) (hqk:q≠km) (hmk:mb≠km) (hkn:k≤10000) (hlm:mb<H5.length) (hlk:km<H5.length) (e:NmS P mb q km H5 K names k ss) (hd:names[k]?=some d):
  Heap.read1 (K++[.cells (zw d) 0 false]) ⟨q,1,some 0⟩=some (.map (some km))∧
  ((∃b,zqo (K++[.cells (zw d) 0 false]) .str (.bool false) true (.map (some km)) (str d.1)=some (tup [.bool b,.bool true],K++[.cells (zw d) 0 false])∧NmS P mb q km H5 (K++[.cells (zw d) 0 false]) names (k+1) ss)∨
   (∃K1 x y z x' y' z' K2 K3,zqo (K++[.cells (zw d) 0 false]) .str (.bool false) true (.map (some km)) (str d.1)=some (tup [.bool false,.bool false],K++[.cells (zw d) 0 false])∧updO (K++[.cells (zw d) 0 false]) .str (.map (some km)) (str d.1) (.bool d.2)=some (undef,K1)∧
   Heap.read1 K1 ⟨mb,0,some 0⟩=some (.slice x y z)∧Heap.read K1 ⟨K.length,0,some 0⟩ 2=some (zw d)∧wu (K1++[.cells (zw d) 0 false]) 2 24 (.slice x y z) (za5 (K1++[.cells (zw d) 0 false]) 2 (.slice (some ⟨K1.length,0,some 0⟩) 1 2))=some (.slice x' y' z',K2)∧Heap.write1 K2 ⟨mb,0,some 0⟩ (.slice x' y' z')=some K3∧NmS P mb q km H5 K3 names (k+1) ss)):=by
 obtain ⟨⟨kn,ks,x,y,z,rfl,hk,hm,own,hb,hkl,hle⟩,⟨kp,kl⟩,cq⟩:=e
 rw [hq] at cq
 have lm:=(yoq.1 hm).1
 have lk:=(yoq.1 hk).1
 have lq:=(yoq.1 cq).1
 refine ⟨zr (zm _ cq),?_⟩
 have lo:=zi2 _ (zm [.cells (zw d) 0 false] hk) (.bool false) true (w:=d.1) (zuj kn d.1)
 rw [pv hd,fg] at hkl
 cases hl:wn kn d.1 with
 | some b=>
  rw [hl] at lo hkl
  simp only [Option.isSome_some,if_true] at hkl
  exact .inl ⟨b,lo,⟨⟨kn,_,x,y,z,rfl,zm _ hk,zm _ hm,own.more _,hb,hkl,by omega⟩,⟨fun b o ho n1 n2=>zm _ (kp b o ho n1 n2),by simp;omega⟩,by rw [zm _ cq,hq]⟩⟩
 | none=>
  rw [hl] at lo hkl
  simp only [Option.isSome_none,yoy,if_false] at hkl
  right
  have hu:=zqd _ (zm [.cells (zw d) 0 false] hk) (zlb hl d.2)
  obtain ⟨K1,hK1⟩:∃K1,K1=(K++[AObj.cells (zw d) 0 false]).set km (.map (knE (kn++[(d.1,d.2)]))):=⟨_,rfl⟩
  rw [←hK1] at hu
  have l1:K1.length=K.length+1:=by rw [hK1];simp
  have g1:∀b o,b≠km→K[b]?=some o→K1[b]?=some o:=fun b o n ho=>by rw [hK1,you (yps n)];exact zm _ ho
  have gr:K1[K.length]?=some (.cells (zw d) 0 false):=by rw [hK1,you (by omega)];simp
  have own1:Own [] K1 (.slice x y z) 2 (kn.map zw):=own.keep fun b hb' o ho=>g1 b o (by have:=hb b hb';omega) ho
  obtain ⟨s',K2,p1,p2,p3,p4,p5,p6⟩:=own1.push (⟨_,rfl⟩:Pre [] K1) (row:=zw d) (bytes:=24) (zf9 d) (by rw [ypd];unfold wy;omega)
  obtain ⟨x',y',z',rfl⟩:=p2.slice
  have nb:∀b,b<H5.length→blk (.slice x y z)≠some b:=fun b hlt h=>by have:=hb b h;omega
  have hm2:K2[mb]?=some (.cells [.slice x y z,ss] 0 false):=p5 _ _ (g1 _ _ hmk hm) (nb _ hlm)
  have lm2:=(yoq.1 hm2).1
  have blk2:∀b,blk (.slice x' y' z')=some b→H5.length≤b:=fun b hb'=>by
   rcases p6 with h | ⟨j,h,h'⟩
   ·rw [h] at hb';exact hb b hb'
   ·rw [h] at hb';cases hb';omega
  have k3:∀b o,b<H5.length→b≠mb→b≠km→K[b]?=some o→(K2.set mb (.cells [.slice x' y' z',ss] 0 false))[b]?=some o:=fun b o hlt n1 n2 ho=>by
   rw [you (yps n1)];exact p5 b o (g1 b o n2 ho) (nb b hlt)
  refine ⟨K1,x,y,z,x',y',z',K2,K2.set mb (.cells [.slice x' y' z',ss] 0 false),lo,hu,zr (g1 _ _ hmk hm),zkc gr (zf9 d),p1,by rw [jo hm2 (by simp)];rfl,⟨⟨kn++[d],_,x',y',z',rfl,?_,by rw [yox lm2],?_,blk2,hkl,by simp;omega⟩,⟨fun b o ho n1 n2=> ?_,by rw [yo3];omega⟩,?_⟩⟩
  ·rw [you hmk]
   exact p5 _ _ (by rw [hK1,yox (by simp;omega)]) (nb _ hlk)
  ·rw [yp8]
   exact p2.keep fun b hb' o ho=>by rw [you (by have:=blk2 b hb';omega)];exact ho
  ·have hlt:=(yoq.1 ho).1
   exact k3 b o hlt n1 n2 (kp b o ho n1 n2)
  ·rw [hq];exact k3 q _ (yoq.1 hq).1 hqm hqk cq
theorem ylx (P:RP) (kn:Kn):∀st,ylf P kn st
 | .lets rc gs=>yfq P kn rc gs
 | .chk k x as_=>ygv P kn k x as_
theorem yho {kn:Kn} {n:Nat} {s s':Stm} (h:chkS kn n s=.ok s') (hn:n≤64):n+s'.given.length≤64∧∀rc gs',s'=.lets rc gs'→∃gs,s=.lets rc gs∧gs.length=gs'.length:=by
 cases s with
 | lets rc gs=>
  rw [chkS] at h
  split at h
  ·cases h
  ·rename_i u hf
   split at h
   ·cases h
   ·rename_i l hl
    cases h
    have hlen:l.length=gs.length:=by have:=congrArg List.length (ziv hl);simpa using this
    refine ⟨?_,fun rc' gs' hs=>by cases hs;exact ⟨gs,rfl,hlen.symm⟩⟩
    simp only [Stm.given,x5,ypd,hlen]
    rcases znl hf with h | rfl
    ·omega
    ·simpa using hn
 | chk k x as_=>
  rw [chkS] at h
  split at h
  ·cases h
  ·split at h
   ·cases h
   ·cases h;exact ⟨by simpa [Stm.given] using hn,fun _ _ hs=>by cases hs⟩
structure LsS (P:RP) (mb q km i:Nat) (H6 K:Heap) (R0:CR (List Stm)) (stms:List Stm) (T:Nat→Prop) (rows:List (List Value)) (k x a:Nat):Prop where
 rd:Rd P K i 0 x a
 ex:(x=0→a=0∧∃(kn:Kn) (n:Nat) (rm:Value) (l':List Stm),K[q]?=some (.cells [pt P.r,.map (some km),rm,.int .i64 (n:Int)] 0 false)∧K[km]?=some (.map (knE kn))∧StsP K T rows l'∧n≤64∧∃done,done.length=k∧l'=done++stms.drop k∧(∀rc gs,Stm.lets rc gs∈done→gs.length≤8192)∧R0=(match chkM kn n (stms.drop k) with | .bad c a=>.bad c a | .ok l=>.ok (done++l)))∧(x≠0→R0=.bad x a)
 kp:(∀(b:Nat) (o:AObj),H6[b]?=some o→¬T b→b≠q→b≠km→b≠P.r→K[b]?=some o)∧H6.length≤K.length
def LsI (P:RP) (mb q km i:Nat) (H6:Heap) (R0:CR (List Stm)) (stms:List Stm) (T:Nat→Prop) (rows:List (List Value)) (ss:Value) (k:Nat) (st:St):Prop:=∃K x a,(∃j:Nat→Value,st=⟨[j 0,j 1,j 2,j 3,j 4,j 5,j 6,j 7,j 8,j 9,pt P.r,pt mb,pt q,j 13,j 14,j 15,j 16,j 17,j 18,j 19,j 20,j 21,j 22,j 23,j 24,j 25,j 26,j 27,j 28,j 29,j 30,j 31,j 32,j 33,j 34,j 35,j 36,j 37,j 38,j 39,j 40,j 41,j 42,j 43,j 44,j 45,j 46,j 47,j 48,j 49,j 50,j 51,j 52,j 53,j 54,j 55,j 56,j 57,j 58,j 59,j 60,j 61,j 62,j 63,j 64,j 65,j 66,j 67,j 68,j 69,j 70,j 71,j 72,j 73,j 74,j 75,j 76,j 77,j 78,j 79,j 80,j 81,j 82,j 83,j 84,j 85,j 86,j 87,j 88,j 89,j 90,j 91,j 92,j 93,j 94,j 95,j 96,j 97,j 98,j 99,j 100,j 101,j 102,j 103,j 104,j 105,ss,.int .i64 (rows.length:Int),.int .i64 (k:Int),j 109,j 110,j 111,j 112,j 113,j 114,j 115,j 116,j 117,j 118,j 119,j 120,j 121,j 122,j 123,j 124,j 125,j 126,j 127,j 128,j 129,j 130],K⟩)∧LsS P mb q km i H6 K R0 stms T rows k x a
def LsO (P:RP) (mb q km i:Nat) (H6:Heap) (R0:CR (List Stm)) (stms:List Stm) (T:Nat→Prop) (rows:List (List Value)) (ss:Value) (st:St):Prop:=∃K x a k,(∃j:Nat→Value,st=⟨[j 0,j 1,j 2,j 3,j 4,j 5,j 6,j 7,j 8,j 9,pt P.r,pt mb,j 12,j 13,j 14,j 15,j 16,j 17,j 18,j 19,j 20,j 21,j 22,j 23,j 24,j 25,j 26,j 27,j 28,j 29,j 30,j 31,j 32,j 33,j 34,j 35,j 36,j 37,j 38,j 39,j 40,j 41,j 42,j 43,j 44,j 45,j 46,j 47,j 48,j 49,j 50,j 51,j 52,j 53,j 54,j 55,j 56,j 57,j 58,j 59,j 60,j 61,j 62,j 63,j 64,j 65,j 66,j 67,j 68,j 69,j 70,j 71,j 72,j 73,j 74,j 75,j 76,j 77,j 78,j 79,j 80,j 81,j 82,j 83,j 84,j 85,j 86,j 87,j 88,j 89,j 90,j 91,j 92,j 93,j 94,j 95,j 96,j 97,j 98,j 99,j 100,j 101,j 102,j 103,j 104,j 105,j 106,j 107,j 108,j 109,j 110,j 111,j 112,j 113,j 114,j 115,j 116,j 117,j 118,j 119,j 120,j 121,j 122,j 123,j 124,j 125,j 126,j 127,j 128,j 129,j 130],K⟩)∧LsS P mb q km i H6 K R0 stms T rows k x a∧(x=0→k=rows.length)
theorem yf9 {P:RP} {mb q km i i0 k:Nat} {hb H6 K:Heap} {R0:CR (List Stm)} {stms:List Stm} {T:Nat→Prop} {rows:List (List Value)} {s:Stm} (eb:Rd P hb i0 0 0 0) (hqb:hb.length≤q) (hkb:hb.length≤km) (hql:q<H6.length) (hkl:km<H6.length) (hT:∀z,T z→hb.length≤z∧z≠q∧z≠km∧z<H6.length) (hgs:∀rc gs,Stm.lets rc gs∈stms→gs.length≤8192) (e:LsS P mb q km i H6 K R0 stms T rows k 0 0) (hs:stms[k]?=some s):
  ∃row K',rows[k]?=some row∧DF FF j1 [pt q,agg row] (K++[.cells row 0 false])=some (tup [],K')∧∃x a,LsS P mb q km i H6 K' R0 stms T rows (k+1) x a:=by
 obtain ⟨rd,⟨f1,f2⟩,kp,kl⟩:=e
 obtain ⟨_,kn,n,rm,l',cq,ck,st,hn,done,hdl,hl',hdg,hR⟩:=f1 rfl
 have hlk:l'[k]?=some s:=by rw [hl',ypn (by omega),hdl,Nat.sub_self,List.getElem?_drop,yqe];exact hs
 obtain ⟨row,Tk,hrow,sp,hTk,back⟩:=st.focus hlk
 have L:=[AObj.cells row 0 false]
 have nq:q≠P.r:=by have:=eb.lr;omega
 have nk:km≠P.r:=by have:=eb.lr;omega
 have smem:s∈stms:=yp3 hs
 obtain ⟨K',q',r',k'⟩:=ylx P kn s hb (K++[.cells row 0 false]) i0 i q km n rm Tk row eb (rd.more _) (zm _ cq) (zm _ ck) (sp.keep fun b o _ ho=>zm _ ho) (fun z hz=>by
  have:=hT z (hTk z hz);exact ⟨this.1,this.2.1,this.2.2.1,by simp;omega⟩) hqb hkb (by omega) (fun rc gs hs'=>hgs rc gs (hs'▸smem))
 have keep:∀b o,K[b]?=some o→¬Tk b→b≠q→b≠km→b≠P.r→K'[b]?=some o:=fun b o ho n1 n2 n3 n4=>k'.1 b o (zm _ ho) (fun h=>h.elim n1 fun h=>h.elim n2 n3) n4
 have kp':(∀(b:Nat) (o:AObj),H6[b]?=some o→¬T b→b≠q→b≠km→b≠P.r→K'[b]?=some o)∧H6.length≤K'.length:=
  ⟨fun b o ho n1 n2 n3 n4=>keep b o (kp b o ho n1 n2 n3 n4) (fun h=>n1 (hTk b h)) n2 n3 n4,by have:=k'.2;simp at this;omega⟩
 have hR2:R0=(match chkS kn n s with | .bad c a=>CR.bad c a | .ok s'=>(match chkM (kn++s'.given) (n+s'.given.length) (stms.drop (k+1)) with | .bad c a=>.bad c a | .ok l=>.ok (done++(s'::l)))):=by
  rw [hR,pv hs,chkM]
  cases chkS kn n s with
  | bad c a=>rfl
  | ok s'=>simp only;cases chkM (kn++s'.given) (n+s'.given.length) (stms.drop (k+1))<;> rfl
 have others:∀b o,T b→¬Tk b→K[b]?=some o→K'[b]?=some o:=fun b o h1 h2 ho=>by
  have:=hT b h1;have:=eb.lr
  exact keep b o ho h2 (by omega) (by omega) (by omega)
 refine ⟨row,K',hrow,q',?_⟩
 cases hc:chkS kn n s with
 | bad c a=>
  rw [hc] at r' hR2
  obtain ⟨hc0,e'⟩:=r'
  exact ⟨c,a,e',⟨fun h=>absurd h hc0,fun _=>hR2⟩,kp'⟩
 | ok s'=>
  rw [hc] at r' hR2
  obtain ⟨sp',e',⟨rm',cq'⟩,ck'⟩:=r'
  obtain ⟨h64,hlen⟩:=yho hc hn
  refine ⟨0,0,e',⟨fun _=>⟨rfl,kn++s'.given,n+s'.given.length,rm',l'.set k s',cq',ck',back K' s' sp' others,h64,done++[s'],by simp [hdl],?_,?_,?_⟩,fun h=>absurd rfl h⟩,kp'⟩
  ·rw [hl',List.set_append_right _ _ (by omega),hdl,Nat.sub_self,pv hs];simp
  ·intro rc gs hm
   rcases ype.1 hm with hm | hm
   ·exact hdg rc gs hm
   ·simp at hm
    obtain ⟨gs0,h1,h2⟩:=hlen rc gs hm.symm
    have:=hgs rc gs0 (h1▸smem)
    omega
  ·rw [hR2]
   simp only
   cases chkM (kn++s'.given) (n+s'.given.length) (stms.drop (k+1))<;> simp
/-- A model in memory, its objects among U. -/
structure ModP (K:Heap) (U:Nat→Prop) (mb:Nat) (md:Md):Prop where
 ex:∃ks ss rows T,K[mb]?=some (.cells [ks,ss] 0 false)∧Sl K ks 2 (md.known.map zw)∧Sl K ss 4 rows∧StsP K T rows md.l∧(∀z,T z→U z)∧(∀b,blk ks=some b→U b)∧∀b,blk ss=some b→U b
 mb:U mb
 len:md.l.length≤8193∧md.known.length≤10000∧∀rc gs,Stm.lets rc gs∈md.l→gs.length≤8192
theorem ModP.keep {K K':Heap} {U:Nat→Prop} {mb:Nat} {md:Md} (e:ModP K U mb md) (k:∀b o,U b→K[b]?=some o→K'[b]?=some o):ModP K' U mb md:=by
 obtain ⟨⟨ks,ss,rows,T,h1,h2,h3,h4,h5,h6,h7⟩,hm,hl⟩:=e
 exact ⟨⟨ks,ss,rows,T,k _ _ hm h1,h2.keep fun b hb o ho=>k b o (h6 b hb) ho,h3.keep fun b hb o ho=>k b o (h7 b hb) ho,h4.keep fun b o hb ho=>k b o (h5 b hb) ho,h5,h6,h7⟩,hm,hl⟩
def chkR (kn:Kn):PR (List Stm)→CR (List Stm)
 | .bad c a=>.bad c a
 | .ok acc _=>chkM kn 0 acc
def mdR (kn:Kn):CR (List Stm)→CR Md
 | .bad c a=>.bad c a
 | .ok l=>.ok ⟨kn,l⟩
theorem znb {l:List UInt8} {names:Kn} {m:List Tok} (hl:¬4096<l.length) (hs:j6 l 0=.ok m):pg l names=mdR (fg [] names) (chkR (fg [] names) (zku l.length m)):=by
 unfold pg
 rw [if_neg hl,hs]
 simp only
 cases zku l.length m with
 | bad c a=>rfl
 | ok acc r=>simp only [chkR];cases chkM (fg [] names) 0 acc <;> rfl
def ModR (h h':Heap) (v:Value):CR Md→Prop
 | .bad c a=>v=tup [nilP,.int .i64 (c:Int),.int .i64 (a:Int)]∧h'=h∧c≠0
 | .ok md=>∃mb,v=tup [pt mb,.int .i64 0,.int .i64 0]∧ModP h' (fun z=>h.length≤z∧z<h'.length) mb md
theorem zxp {h K:Heap} (p:Pre h K) (c a:Nat) (hc:c≠0):ModR h (AM.finish h (tup [nilP,.int .i64 (c:Int),.int .i64 (a:Int)]) K) (tup [nilP,.int .i64 (c:Int),.int .i64 (a:Int)]) (.bad c a)∧Pre h (AM.finish h (tup [nilP,.int .i64 (c:Int),.int .i64 (a:Int)]) K):=by
 obtain ⟨L,rfl⟩:=p
 rw [ft h L rfl]
 exact ⟨⟨rfl,rfl,hc⟩,Pre.refl h⟩
theorem zqe:∀(ns kn:Kn),(fg kn ns).length≤kn.length+ns.length
 | [],kn=>by simp [fg]
 | d::r,kn=>by
  rw [fg]
  have:=zqe r (if (wn kn d.1).isSome then kn else kn++[d])
  split at this
  ·rename_i h;rw [if_pos h];simp only [ypb];omega
  ·rename_i h;rw [if_neg h];simp only [ypb,yo8,List.length_nil] at *;omega
set_option maxHeartbeats 16000000 in
theorem zjd (l:List UInt8) (names:Kn) (ns:Value) {h:Heap} (g:Gl h) (hns:Sl h ns 2 (names.map zw)) (hnl:names.length≤10000):∃v h',DF FF zbi [str l,ns] h=some (v,h')∧(ModR h h' v (pg l names)∧Pre h h'):=by
 refine yb zvm ?_
 by_cases hl:4096<l.length
 ·have c1:((4096:Int)<(l.length:Int))=True:=by simp;omega
  have hR:pg l names=.bad 2 0:=by unfold pg;rw [if_pos hl]
  simp only [zf7,zb,yor,yos,zz,qt,zf,zu,zh,zh,c1,qt,pkA,pkB]
  rw [hR]
  exact ⟨⟨rfl,rfl,by omega⟩,Pre.refl h⟩
 have c1:((4096:Int)<(l.length:Int))=False:=by simp;omega
 obtain ⟨v1,H1,t1,t2,t3⟩:=zrs l g
 have htv:zc0 l=j6 l 0:=by unfold zc0;rw [if_neg (by omega)]
 rw [htv] at t2
 cases hsc:j6 l 0 with
 | bad c a=>
  rw [hsc] at t2
  have t2:v1=tup [.slice none 0 0,.int .i64 (c:Int),.int .i64 (a:Int)]:=t2
  subst t2
  have hc:=zpj hsc
  have c2:((c:Int) !=0)=true:=by rw [bne_iff_ne];omega
  have hR:pg l names=.bad c a:=by unfold pg;rw [if_neg hl,hsc]
  simp only [zf7,zb,yor,yos,qt,zf,zu,zh,zh,c1,t1,c2,qt,pkA,pkB]
  rw [hR]
  exact zxp t3 c a hc
 | ok m=>
  rw [hsc] at t2
  obtain ⟨s,rfl,own1⟩:=t2
  obtain ⟨hok,hml⟩:=zw4 hsc
  have c2:((0:Int) !=0)=false:=rfl
  obtain ⟨s',c,H2,n1,n2,n3,n4,n5,n6⟩:=ynn own1.sl (by rw [ypd];omega)
  have p12:=t3.trans n6
  obtain ⟨sx,sy,sz,rfl⟩:=own1.slice
  have lc2:=(yoq.1 n2).1
  obtain ⟨P,hP⟩:∃P:RP,P={ r:=H2.length,c:=c,en:=l.length,ws:=.slice sx sy sz,cs:=s',L:=m,ne:=by omega,wr:=fun h=>by have:=(own1.lt h).2;have:=n6.le;omega,wc:=fun h=>by have:=(own1.lt h).2;omega,cr:=fun h=>by have:=(n3.lt h).2;omega,cc:=n4,ok:=hok,len:=by omega}:=⟨_,rfl⟩
  have pr:P.r=H2.length:=by rw [hP]
  have pc:P.c=c:=by rw [hP]
  have pe:P.en=l.length:=by rw [hP]
  have pw:P.ws=.slice sx sy sz:=by rw [hP]
  have pcs:P.cs=s':=by rw [hP]
  have pL:P.L=m:=by rw [hP]
  obtain ⟨H4,hH4⟩:∃H4,H4=H2++[AObj.cells [pt c,.slice sx sy sz,.int .i64 (l.length:Int),.int .i64 0,.int .i64 0,.int .i64 0] 0 false,.cells [.slice none 0 0,.slice none 0 0] 0 false]:=⟨_,rfl⟩
  obtain ⟨mb,hmb⟩:∃mb,mb=H2.length+1:=⟨_,rfl⟩
  have l4:H4.length=mb+1:=by rw [hH4,hmb];simp
  have p4:Pre h H4:=by rw [hH4];exact p12.more _
  have e4:Rd P H4 0 0 0 0:=by
   rw [hH4]
   refine ⟨by rw [pr,pc,pw,pe];simp,by rw [pc,pcs];exact zm _ n2,by rw [pw,pL];exact (own1.sl.pre n6).more _,by rw [pcs,pL];exact n3.sl.more _,Nat.zero_le _⟩
  have hm4:H4[mb]?=some (.cells [nils,nils] 0 false):=by rw [hH4,hmb];simp [nils]
  have hmr:mb≠P.r:=by omega
  have hmc:mb≠P.c:=by omega
  have hwm:blk P.ws≠some mb:=fun h=>by rw [pw] at h;have:=(own1.lt h).2;have:=n6.le;omega
  have hcm:blk P.cs≠some mb:=fun h=>by rw [pcs] at h;have:=(n3.lt h).2;omega
  obtain ⟨R,hRd⟩:∃R,R=zku l.length m:=⟨_,rfl⟩
  have hlens:∀K,lenO K ns=some (.int .i64 (names.length:Int),K):=fun K=>by rw [hns.len,ypd]
  have toPre:∀K,M3 P mb H4 K→Pre h K:=fun K k=>Pre.of (by have:=p4.le;have:=k.le;omega) fun b o ho=>by
   have hlt:=(yoq.1 ho).1
   have h1:=p12.le;have h2:=t3.le
   exact k.keep b o (by rw [p4.get hlt];exact ho) (by omega) (by omega) (by omega)
  have s0:PaS P mb H4 R (P.L.length - 0+1) H4:=.inl ⟨0,nils,fun _=>False,[],[],rfl,e4,hm4,Own.nil _ _ _,trivial,fun z hz=>hz.elim,(fun b hb=>by simp [blk,nils] at hb),M3.refl _ _ _,Nat.zero_le _,(by simp),by
   rw [hRd,←pe,←pL,List.drop_zero];unfold zku;cases jw P.en P.L.length P.L <;> rfl⟩
  have hf1:yp [.pointer none,.slice none 0 0,.int .i64 0,.int .i64 0,.int .i64 0,.int .i64 0] [(0,1,pt c),(1,1,.slice sx sy sz),(2,1,.int .i64 (l.length:Int))]=some [pt c,.slice sx sy sz,.int .i64 (l.length:Int),.int .i64 0,.int .i64 0,.int .i64 0]:=by
   rw [jk _ (by simp),zk6 _ (by simp),zao _ (by simp),po];rfl
  simp only [zf7,zb,yor,yos,zg,ze,zf,zu,zh,zh,c1,t1,c2,n1,hf1,zg,ze,←hH4,pkA,pkB]
  rw [show H2.length+1=mb from hmb.symm,←pr]
  refine zj5 0 (PaI P mb H4 ns R) (PaO P mb H4 ns R) ?_ (P.L.length - 0+1) _ ⟨H4,junk rfl,s0⟩ ?_
  ·rintro k0 st ⟨K,⟨j,rfl⟩,⟨k,ss,T,acc,rows,rfl,eK,hm,own,stp,hT,hb,m4,hacc,hgs,hR⟩ | ⟨k,ec,ea,x,y,z,rows,rfl,eK,hc0,hR,hm,m4,own,hb,hrl⟩⟩
   ·by_cases hk:k<P.L.length
    ·obtain ⟨row,K1,x,y,z,K2,hr4,q1,rd1,ap,w1,m',hlt,pas⟩:=yg6 e4 l4 hmr hmc hwm hcm hk eK hm own stp hT hb m4 hacc hgs hR
     have c3:((0:Int)<((P.L.length - k:Nat):Int))=True:=by simp;omega
     have rm0:Heap.read1 K ⟨mb,1,some 0⟩=some ss:=zr hm
     obtain ⟨ax,ay,az,rfl⟩:=own.slice
     have a1:zbd K1 (.pointer (some ⟨mb,1,some 0⟩)) (.slice ax ay az)=some (undef,K1):=fu rd1 rfl
     simp only [zi,zb,yor,slc,zak,ok_0 eK,eK.r0,zio eK,c3,rm0,q1,a1,yer _ _ _ _ hr4,ap,w1,pkA,pkB]
     exact ⟨m',hlt,_,junk rfl,pas⟩
    ·have c3:((0:Int)<((P.L.length - k:Nat):Int))=False:=by simp;omega
     simp only [zi,zb,x8,ok_0 eK,eK.r0,zio eK,c3,x8,pkA,pkB]
     have hk':k=P.L.length:=by have:=eK.le;omega
     rw [yo5 (by omega)] at hR
     have hR':R=.ok acc []:=by
      cases hq:P.L.length with
      | zero=>rw [hq] at hR;simpa [jw] using hR
      | succ q=>rw [hq] at hR;simpa [jw] using hR
     exact ⟨K,junk rfl,k,0,0,ss,rows,⟨eK,hm,own,hb,m4,by rw [(stp.len).1];have:=P.len;omega,fun _=>⟨rfl,T,acc,hR',stp,hT,hgs,by have:=P.len;omega⟩,fun h=>absurd rfl h⟩⟩
   ·simp only [zi,x8,fz eK hc0,x8,pkA]
    exact ⟨K,junk rfl,k,ec,ea,.slice x y z,rows,⟨eK,hm,own,hb,m4,hrl,fun h=>absurd h hc0,fun _=>hR⟩⟩
  rintro st ⟨K,⟨j,rfl⟩,k,x,a,ss,rows,E⟩
  have lK:=E.m3.le
  obtain ⟨ax,ay,az,rfl⟩:=E.own.slice
  obtain ⟨K5,hK5⟩:∃K5,K5=K++[AObj.map [],.cells [pt P.r,.map (some K.length),.map none,.int .i64 0] 0 false]:=⟨_,rfl⟩
  have l5:K5.length=K.length+2:=by rw [hK5];simp
  have hq5:K5[K.length+1]?=some (.cells [pt P.r,.map (some K.length),.map none,.int .i64 ((0:Nat):Int)] 0 false):=by rw [hK5];simp
  have hk5:K5[K.length]?=some (.map (knE [])):=by rw [hK5];simp [knE]
  have hm5:K5[mb]?=some (.cells [nils,.slice ax ay az] 0 false):=by rw [hK5];exact zm _ E.mo
  have hmK:=(yoq.1 E.mo).1
  have hf2:yp [.pointer none,.map none,.map none,.int .i64 0] [(0,1,pt P.r),(1,1,.map (some K.length))]=some [pt P.r,.map (some K.length),.map none,.int .i64 0]:=by
   rw [jk _ (by simp),zw7 _ (by simp),po];rfl
  have pK:=toPre K E.m3
  have p5:Pre h K5:=by rw [hK5];exact pK.more _
  have lm3:h.length≤H2.length:=p12.le
  have pN:∀K6 k6,NmS P mb (K.length+1) K.length K5 K6 names k6 (.slice ax ay az)→Pre h K6:=fun K6 k6 e=>Pre.of (by have:=p5.le;have:=e.kp.2;omega) fun b o ho=>by
   have hlt:=(yoq.1 ho).1
   exact e.kp.1 b o (by rw [p5.get hlt];exact ho) (by omega) (by have:=pK.le;omega)
  simp only [yor,zg,ze,hf2,zgm,zg,ze,←hK5,hlens,pkA,pkB]
  refine jv 2 names.length (NmI P mb (K.length+1) K.length K5 names ns (.slice ax ay az)) (NmO P mb (K.length+1) K.length K5 names (.slice ax ay az) names.length) ?_ ?_ _ ⟨K5,junk rfl,⟨⟨[],nils,_,_,_,rfl,hk5,hm5,Own.nil _ _ _,fun b hb=>by simp [blk,nils] at hb,by simp,yoz _⟩,⟨fun b o ho _ _=>ho,yoz _⟩,rfl⟩⟩ ?_
  ·rintro n st hn ⟨K6,⟨j,rfl⟩,e⟩
   have hd:names[n]?=some names[n]:=yow hn
   obtain ⟨b',o,v,a1,a2⟩:=(hns.pre (pN K6 n e)).atH (k:=n) (by simpa using hn)
   rw [List.getElem_map] at a2
   have h1:((n:Int)<(names.length:Int))=True:=by simp;omega
   obtain ⟨rq,cases_⟩:=yif hq5 (by omega) (by omega) (by omega) (by omega) (by omega) (by omega) e hd
   rcases cases_ with ⟨b,lo,e'⟩ | ⟨J1,x,y,z,x',y',z',J2,J3,lo,hu,r1,r2,ap,w1,e'⟩
   ·simp only [zb,yor,zc,h1,a1,a2,zf9,zty,rq,fo,lo,zs (k:=n) (by omega),pkA,pkB]
    exact ⟨_,junk rfl,e'⟩
   ·simp only [zb,yor,slc,zc,h1,a1,a2,zf9,zty,ya5,rq,fo,b8,lo,hu,r1,r2,zsv,ap,w1,zs (k:=n) (by omega),pkA,pkB]
    exact ⟨_,junk rfl,e'⟩
  ·rintro st ⟨K6,⟨j,rfl⟩,e⟩
   have h1:((names.length:Int)<(names.length:Int))=False:=by simp
   simp only [zb,x8,zq,h1,x8,pkA]
   exact ⟨K6,junk rfl,e⟩
  rintro st ⟨K6,⟨j,rfl⟩,e6⟩
  have p6:=pN K6 _ e6
  obtain ⟨⟨kn,ks,kx,ky,kz,rfl,hk6,hm6,own6,hb6,hkn6,hkl6⟩,⟨kp6,kl6⟩,cq6⟩:=e6
  rw [hq5] at cq6
  rw [yp5,fg] at hkn6
  subst hkn6
  have g6:∀b o,K[b]?=some o→b≠mb→K6[b]?=some o:=fun b o ho n1=>by
   have hlt:=(yoq.1 ho).1
   exact kp6 b o (by rw [hK5];exact zm _ ho) n1 (by omega)
  have rd6:Rd P K6 k 0 x a:=⟨g6 _ _ E.rd.hr (yps hmr),g6 _ _ E.rd.hc (yps hmc),E.rd.sw.keep fun b hb o ho=>g6 b o ho (by rintro rfl;exact hwm hb),E.rd.sc.keep fun b hb o ho=>g6 b o ho (by rintro rfl;exact hcm hb),E.rd.le⟩
  have ownS:Own [] K6 (.slice ax ay az) 4 rows:=E.own.keep fun b hb o ho=>g6 b o ho (by have:=E.lo b hb;omega)
  obtain ⟨T,stms,hx0,hTb⟩:∃(T:Nat→Prop) (stms:List Stm),(x=0→a=0∧R=.ok stms []∧StsP K6 T rows stms∧(∀rc gs,Stm.lets rc gs∈stms→gs.length≤8192)∧stms.length≤8192)∧((∀z,T z→mb<z∧z<K.length∧blk (.slice ax ay az)≠some z)∧∀rc gs,Stm.lets rc gs∈stms→gs.length≤8192):=by
   by_cases x0:x=0
   ·obtain ⟨a0,T,acc,hR,st,hT,hg,hl⟩:=E.ok x0
    exact ⟨T,acc,fun _=>⟨a0,hR,st.keep fun b o hb ho=>g6 b o ho (by have:=hT b hb;omega),hg,hl⟩,hT,hg⟩
   ·exact ⟨fun _=>False,[],fun h=>absurd h x0,fun z hz=>hz.elim,by simp⟩
  obtain ⟨hT,hgs⟩:=hTb
  obtain ⟨R0,hR0⟩:∃R0:CR (List Stm),R0=chkR (fg [] names) R:=⟨_,rfl⟩
  have hPM:pg l names=mdR (fg [] names) R0:=by rw [znb hl hsc,←hRd,hR0]
  have hlS:∀J,lenO J (.slice ax ay az)=some (.int .i64 (rows.length:Int),J):=fun J=>ownS.len J
  have rm6:Heap.read1 K6 ⟨mb,1,some 0⟩=some (.slice ax ay az):=zr hm6
  have L0:LsS P mb (K.length+1) K.length k K6 K6 R0 stms T rows 0 x a:=⟨rd6,⟨fun x0=>by
   obtain ⟨a0,hR,st,hg,hl⟩:=hx0 x0
   exact ⟨a0,fg [] names,0,.map none,stms,cq6,hk6,st,by omega,[],rfl,by simp,by simp,by rw [hR0,hR,List.drop_zero,chkR];cases chkM (fg [] names) 0 stms <;> rfl⟩,fun x0=>by rw [hR0,E.bad x0];rfl⟩,fun b o ho _ _ _ _=>ho,yoz _⟩
  have moreL:∀J L k' x' a',LsS P mb (K.length+1) K.length k K6 J R0 stms T rows k' x' a'→LsS P mb (K.length+1) K.length k K6 (J++L) R0 stms T rows k' x' a':=fun J L k' x' a' e=>
   ⟨e.rd.more _,⟨fun x0=>by
    obtain ⟨a0,kn,n,rm,l',c1,c2,c3,c4⟩:=e.ex.1 x0
    exact ⟨a0,kn,n,rm,l',zm _ c1,zm _ c2,c3.keep fun b o _ ho=>zm _ ho,c4⟩,e.ex.2⟩,fun b o ho n1 n2 n3 n4=>zm _ (e.kp.1 b o ho n1 n2 n3 n4),by have:=e.kp.2;simp;omega⟩
  have keepS:∀J k' x' a',LsS P mb (K.length+1) K.length k K6 J R0 stms T rows k' x' a'→Sl J (.slice ax ay az) 4 rows:=fun J k' x' a' e=>ownS.sl.keep fun b hb o ho=>by
   have:=E.lo b hb;have:=(E.own.lt hb).2
   exact e.kp.1 b o ho (fun h=>(hT b h).2.2 hb) (by omega) (by omega) (by omega)
  simp only [zb,rm6,hlS,pkA,pkB]
  refine jv 4 rows.length (LsI P mb (K.length+1) K.length k K6 R0 stms T rows (.slice ax ay az)) (LsO P mb (K.length+1) K.length k K6 R0 stms T rows (.slice ax ay az)) ?_ ?_ _ ⟨K6,x,a,junk rfl,L0⟩ ?_
  ·rintro n st hn ⟨J,x',a',⟨j,rfl⟩,e⟩
   obtain ⟨b',o,v,a1,a2⟩:=(keepS J n x' a' e).atH (k:=n) hn
   have h1:((n:Int)<(rows.length:Int))=True:=by simp;omega
   have h4:rows[n].length=4:=(keepS J n x' a' e).2 _ (List.getElem_mem hn)
   by_cases x0:x'=0
   ·subst x0
    obtain ⟨a0,kn,n',rm,l',c1,c2,c3,c4,c5,c6,c7,c8⟩:=e.ex.1 rfl
    subst a0
    have hlen:stms.length=rows.length:=by
     have:=(c3.len).1
     rw [this,c7,yo8,ypf,c6]
     have hdl:n≤stms.length:=by
      rcases Nat.lt_or_ge stms.length n with h | h
      ·exfalso
       have h3:=(c3.len).1
       rw [c7,yo8,ypf,c6] at h3
       omega
      ·exact h
     omega
    have hs:stms[n]?=some stms[n]:=yow (by omega)
    obtain ⟨row,J',hrow,ql,x'',a'',e'⟩:=yf9 e4 (by omega) (by omega) (by omega) (by omega) (fun z hz=>by have:=hT z hz;exact ⟨by omega,by omega,by omega,by omega⟩) hgs e hs
    rw [yow hn] at hrow
    have hrow:=yqc hrow
    rw [←hrow] at ql
    simp only [zb,yor,zc,h1,a1,a2,h4,ok_0 (moreL J _ _ _ _ e).rd,ql,zs (k:=n) (by have:=E.rl;omega),pkA,pkB]
    exact ⟨J',x'',a'',junk rfl,e'⟩
   ·have ob:=fun s Q=>zql s Q 5 4 (by decide)
    simp only [zb,yor,x8,zq,h1,a1,a2,h4,fz (moreL J _ _ _ _ e).rd x0,ob,x8,pkA,pkB]
    exact ⟨_,x',a',n,junk rfl,moreL J _ _ _ _ e,fun h=>absurd h x0⟩
  ·rintro st ⟨J,x',a',⟨j,rfl⟩,e⟩
   have h1:((rows.length:Int)<(rows.length:Int))=False:=by simp
   simp only [zb,x8,zq,h1,x8,pkA]
   exact ⟨J,x',a',rows.length,junk rfl,e,fun _=>rfl⟩
  rintro st ⟨J,x',a',k',⟨j,rfl⟩,e,hk'⟩
  have pJ:Pre h J:=Pre.of (by have:=p6.le;have:=e.kp.2;omega) fun b o ho=>by
   have hlt:=(yoq.1 ho).1
   exact e.kp.1 b o (by rw [p6.get hlt];exact ho) (fun h=>by have:=hT b h;omega) (by have:=pK.le;omega) (by have:=pK.le;omega) (by omega)
  by_cases x0:x'=0
  ·subst x0
   obtain ⟨a0,kn,n',rm,l',c1,c2,c3,c4,done,c6,c7,c8,c9⟩:=e.ex.1 rfl
   subst a0
   have hkk:=hk' rfl
   have hdl:stms.drop k'=[]:=by
    have h3:=(c3.len).1
    rw [c7,yo8,ypf,c6,hkk] at h3
    exact yo5 (by omega)
   rw [hdl,ypl] at c7
   rw [hdl,chkM] at c9
   simp only [ypl] at c9
   subst c7
   simp only [zb,qt,ok_0 e.rd,qt,pkA]
   rw [zfm h rfl,hPM,c9]
   have hmJ:J[mb]?=some (.cells [.slice kx ky kz,.slice ax ay az] 0 false):=e.kp.1 _ _ hm6 (fun h=>by have:=hT _ h;omega) (by omega) (by omega) hmr
   have lmJ:=(yoq.1 hmJ).1
   have gJ:∀b o,K6[b]?=some o→¬T b→b≠K.length+1→b≠K.length→b≠P.r→J[b]?=some o:=e.kp.1
   have lKJ:K6.length≤J.length:=e.kp.2
   refine ⟨⟨mb,rfl,⟨⟨_,_,rows,T,hmJ,own6.sl.keep fun b hb o ho=>gJ b o ho (fun h=>by have:=hT b h;have:=hb6 b hb;omega) (by have:=hb6 b hb;omega) (by have:=hb6 b hb;omega) (by have:=hb6 b hb;omega),keepS J _ _ _ e,c3,fun z hz=> ?_,fun b hb=> ?_,fun b hb=> ?_⟩,?_,?_⟩⟩,pJ⟩
   ·have:=hT z hz;exact ⟨by omega,by omega⟩
   ·have:=hb6 b hb;have:=(own6.lt hb).2;exact ⟨by omega,by omega⟩
   ·have:=E.lo b hb;have:=(E.own.lt hb).2;exact ⟨by omega,by omega⟩
   ·exact ⟨by omega,lmJ⟩
   ·refine ⟨?_,?_,c8⟩
    ·have h3:=(c3.len).1
     show l'.length≤8193
     have:=E.rl
     omega
    ·have:=zqe names [];simp at this;show (fg [] names).length≤10000;omega
  ·simp only [zb,qt,fz e.rd x0,e.rd.r0,qt,pkA,pkB]
   rw [hPM,e.ex.2 x0]
   exact zxp pJ x' a' x0
end Go.Proofs.YtljdbheclfaloaaGreatDoor.AM
namespace Go.Proofs.YtljdbheclfaloaaGreatDoor.AM
open Go.RowKit
set_option linter.unusedSimpArgs false
set_option linter.unusedVariables false
theorem ycy (s:U) (e:Int) (he:0≤e) (h:Heap):DF FF zdu [.int .u32 s.toNat,.int .i64 e] h=some (.bool (s.getLsbD e.toNat),h):=by
 refine ye ya9 ?_
 simp only [zt3,zb,yor,yos,he,ynw,pkA,pkB]
theorem ze0 (s:U) (e:Nat) (h:Heap):DF FF zdu [.int .u32 s.toNat,.int .i64 e] h=some (.bool (s.getLsbD e),h):=ycy s e (by omega) h
theorem lt32 {k:Nat} (hk:k<32):(k:Int)<32:=by omega
theorem zof:¬((32:Nat):Int)<32:=by omega
theorem nat0 (k:Nat):(0:Int)≤(k:Int):=by omega
def idR (s:U):Nat→U:=fun e=>s&&&(1#32 <<< e)
theorem zjr (s:U) (h:Heap):DF FF zde [.int .u32 s.toNat] h=some (agg (relV (idR s)),h):=by
 refine ye yh0 ?_
 simp only [zx0,yos,vy,pkA,pkB]
 refine gg 32 (fun k st=>∃j:Nat→Value,st=⟨[.int .u32 s.toNat,j 1,.pointer (some ⟨h.length,0,some 0⟩),.pointer (some ⟨h.length+1,0,some 0⟩),j 4,.int .i64 k,j 6,j 7,j 8,j 9,j 10,j 11,j 12,j 13,j 14,j 15],
   h++[.cells (relV fun _=>0#32) 0 false,.cells (relV (mix k (fun e=>s&&&(1#32 <<< e)) fun _=>0#32)) 0 false]⟩) ?_ ?_ _ ?_
 ·rintro k st hk ⟨j,rfl⟩
  simp only [zb,zd3,yx,zad,zc,yhp,yiu,lt32 hk,nat0,hk,zs (k:=k) (by omega),pkA,pkB]
  exact junk rfl
 ·rintro st ⟨j,rfl⟩
  simp only [zb,ku,vm,zcp,yx,p9,zq,zof,pkA,pkB]
  rfl
 ·simp only [zep]
  exact junk rfl
def zod (a b:U):Nat→U:=fun e=>if a.getLsbD e then b else 0#32
theorem zot (a b:U) (h:Heap):DF FF zd1 [.int .u32 a.toNat,.int .u32 b.toNat] h=some (agg (relV (zod a b)),h):=by
 refine ye zv2 ?_
 simp only [zop,yor,yos,vy,pkA,pkB]
 refine gg 32 (fun k st=>∃j:Nat→Value,st=⟨[.int .u32 a.toNat,.int .u32 b.toNat,j 2,j 3,.pointer (some ⟨h.length,0,some 0⟩),.pointer (some ⟨h.length+1,0,some 0⟩),j 6,.int .i64 k,j 8,j 9,j 10,j 11,j 12,j 13,j 14,j 15,j 16,j 17],
   h++[.cells (relV fun _=>0#32) 0 false,.cells (relV (mix k (fun e=>if a.getLsbD e then b else 0#32) fun _=>0#32)) 0 false]⟩) ?_ ?_ _ ?_
 ·rintro k st hk ⟨j,rfl⟩
  cases hb:a.getLsbD k
  ·simp only [zb,zc,lt32 hk,zs (k:=k) (by omega),ze0,hb,pkA]
   rw [zho (by simp [hb])]
   exact junk rfl
  ·simp only [zb,zd3,yx,zad,zc,lt32 hk,nat0,hk,zs (k:=k) (by omega),ze0,hb,if_true,pkA,pkB]
   exact junk rfl
 ·rintro st ⟨j,rfl⟩
  simp only [zb,ku,vm,zcp,yx,p9,zq,zof,pkA,pkB]
  rfl
 ·simp only [zep]
  exact junk rfl
def zqb (a b:Nat→U):Nat→U:=fun e=>a e&&& ~~~ b e
theorem zwt (a b:Nat→U) (h:Heap):DF FF zi7 [agg (relV a),agg (relV b)] h=some (agg (relV (zqb a b)),h):=by
 refine ye zvh ?_
 simp only [zny,yor,yos,zg,ze,yx,vy,pkA,pkB]
 refine gg 32 (fun k st=>∃j:Nat→Value,st=⟨[j 0,j 1,.pointer (some ⟨h.length,0,some 0⟩),.pointer (some ⟨h.length+1,0,some 0⟩),.pointer (some ⟨h.length+2,0,some 0⟩),j 5,.int .i64 k,j 7,j 8,j 9,j 10,j 11,j 12,j 13,j 14,j 15,j 16,j 17,j 18],
   h++[.cells (relV (mix k (fun e=>a e&&& ~~~ b e) a)) 0 false,.cells (relV b) 0 false,.cells (relV fun _=>0#32) 0 false]⟩) ?_ ?_ _ ?_
 ·rintro k st hk ⟨j,rfl⟩
  simp only [zb,zd3,yx,zdc,zad,zoq,zc,zxl,lt32 hk,nat0,hk,zs (k:=k) (by omega),pkA,pkB]
  exact junk rfl
 ·rintro st ⟨j,rfl⟩
  simp only [zb,ku,vm,zcp,yx,p9,zq,zof,pkA,pkB]
  rfl
 ·simp only [zep]
  exact junk rfl
def zk2 (s:U) (r:Nat→U):Nat→U
 | 0=>0#32
 | k+1=>if s.getLsbD k then zk2 s r k ||| r k else zk2 s r k
def yez (s:U) (r:Nat→U):U:=zk2 s r 32
theorem yak (s:U) (r:Nat→U) (h:Heap):DF FF zk9 [.int .u32 s.toNat,agg (relV r)] h=some (.int .u32 (yez s r).toNat,h):=by
 refine ye zzv ?_
 simp only [zqf,yor,yos,zg,ze,yx,pkA,pkB]
 refine gg 32 (fun k st=>∃j:Nat→Value,st=⟨[.int .u32 s.toNat,j 1,j 2,.pointer (some ⟨h.length,0,some 0⟩),j 4,.int .u32 (zk2 s r k).toNat,j 6,.int .i64 k,j 8,j 9,j 10,j 11,j 12,j 13,j 14,j 15,j 16,j 17,j 18,j 19],
   h++[.cells (relV r) 0 false]⟩) ?_ ?_ _ ?_
 ·rintro k st hk ⟨j,rfl⟩
  cases hb:s.getLsbD k
  ·simp only [zb,zc,lt32 hk,zs (k:=k) (by omega),ze0,hb,pkA]
   have:zk2 s r (k+1)=zk2 s r k:=by rw [zk2,hb];rfl
   rw [this]
   exact junk rfl
  ·simp only [zb,zd3,zdc,zc,u_or,lt32 hk,nat0,hk,zs (k:=k) (by omega),ze0,hb,pkA,pkB]
   have:zk2 s r (k+1)=zk2 s r k ||| r k:=by rw [zk2,hb];rfl
   rw [this]
   exact junk rfl
 ·rintro st ⟨j,rfl⟩
  simp only [zb,zq,zof,pkA]
  rw [zhk _ _ _ _ _ rfl]
  rfl
 ·exact junk rfl
def invK (r:Nat→U):Nat→Nat→U
 | 0=>fun _=>0#32
 | a+1=>fun b=>if (r a).getLsbD b then invK r a b ||| (1#32 <<< a) else invK r a b
def invR (r:Nat→U):Nat→U:=invK r 32
theorem zrk (r:Nat→U) (h:Heap):DF FF zgo [agg (relV r)] h=some (agg (relV (invR r)),h):=by
 refine ye zra ?_
 simp only [zka,yor,yos,zg,ze,yx,vy,pkA,pkB]
 refine gg 32 (fun a st=>∃j:Nat→Value,st=⟨[j 0,.pointer (some ⟨h.length,0,some 0⟩),.pointer (some ⟨h.length+1,0,some 0⟩),.pointer (some ⟨h.length+2,0,some 0⟩),j 4,j 5,.int .i64 a,j 7,j 8,j 9,j 10,j 11,j 12,j 13,j 14,j 15,j 16,j 17,j 18,j 19,j 20,j 21,j 22,j 23,j 24,j 25,j 26],
   h++[.cells (relV r) 0 false,.cells (relV fun _=>0#32) 0 false,.cells (relV (invK r a)) 0 false]⟩) ?_ ?_ _ ?_
 ·rintro a st ha ⟨j,rfl⟩
  simp only [zb,lt32 ha,pkA]
  refine gg 32 (fun b st=>∃j:Nat→Value,st=⟨[j 0,.pointer (some ⟨h.length,0,some 0⟩),.pointer (some ⟨h.length+1,0,some 0⟩),.pointer (some ⟨h.length+2,0,some 0⟩),.int .i64 a,j 5,.int .i64 a,j 7,j 8,.int .i64 b,j 10,j 11,j 12,j 13,j 14,j 15,j 16,j 17,j 18,j 19,j 20,j 21,j 22,j 23,j 24,j 25,j 26],
   h++[.cells (relV r) 0 false,.cells (relV fun _=>0#32) 0 false,.cells (relV (mix b (fun b=>if (r a).getLsbD b then invK r a b ||| (1#32 <<< a) else invK r a b) (invK r a))) 0 false]⟩) ?_ ?_ _ ?_
  ·rintro b st hb ⟨j,rfl⟩
   cases hc:(r a).getLsbD b
   ·simp only [zb,zd3,zdc,zc,lt32 hb,nat0,ha,zs (k:=b) (by omega),ze0,hc,pkA,pkB]
    rw [zho (by simp [hc])]
    exact junk rfl
   ·simp only [zb,zd3,yx,zdc,zad,zoq,zc,u_or,yiu,lt32 hb,nat0,ha,hb,zs (k:=b) (by omega),ze0,hc,if_true,pkA,pkB]
    exact junk rfl
  ·rintro st ⟨j,rfl⟩
   simp only [zb,p9,zc,zq,zof,zs (k:=a) (by omega),pkA]
   exact junk rfl
  ·simp only [zep]
   exact junk rfl
 ·rintro st ⟨j,rfl⟩
  simp only [zb,ku,vm,zcp,yx,zq,zof,pkA,pkB]
  rfl
 ·exact junk rfl
def zfh (r:Nat→U):Nat→Nat→U
 | 0=>r
 | b+1=>fun a=>if (zfh r b a).getLsbD b then zfh r b a ||| zfh r b b else zfh r b a
def zim (r:Nat→U):Nat→U:=zfh r 32
theorem zlf (r:Nat→U) (h:Heap):DF FF zfj [agg (relV r)] h=some (agg (relV (zim r)),h):=by
 refine ye yam ?_
 simp only [zo8,yos,zg,ze,yx,vy,pkA,pkB]
 refine gg 32 (fun b st=>∃j:Nat→Value,st=⟨[j 0,.pointer (some ⟨h.length,0,some 0⟩),.pointer (some ⟨h.length+1,0,some 0⟩),j 3,j 4,.int .i64 b,j 6,j 7,j 8,j 9,j 10,j 11,j 12,j 13,j 14,j 15,j 16,j 17,j 18,j 19,j 20,j 21,j 22,j 23,j 24,j 25,j 26],
   h++[.cells (relV (zfh r b)) 0 false,.cells (relV fun _=>0#32) 0 false]⟩) ?_ ?_ _ ?_
 ·rintro b st hb ⟨j,rfl⟩
  simp only [zb,lt32 hb,pkA]
  refine gg 32 (fun a st=>∃j:Nat→Value,st=⟨[j 0,.pointer (some ⟨h.length,0,some 0⟩),.pointer (some ⟨h.length+1,0,some 0⟩),.int .i64 b,j 4,.int .i64 b,j 6,j 7,.int .i64 a,j 9,j 10,j 11,j 12,j 13,j 14,j 15,j 16,j 17,j 18,j 19,j 20,j 21,j 22,j 23,j 24,j 25,j 26],
   h++[.cells (relV (mix a (fun a=>if (zfh r b a).getLsbD b then zfh r b a ||| zfh r b b else zfh r b a) (zfh r b))) 0 false,.cells (relV fun _=>0#32) 0 false]⟩) ?_ ?_ _ ?_
  ·rintro a st ha ⟨j,rfl⟩
   have hmid:mix a (fun a=>if (zfh r b a).getLsbD b then zfh r b a ||| zfh r b b else zfh r b a) (zfh r b) b=zfh r b b:=by
    unfold mix
    by_cases hq:b<a
    ·simp only [if_pos hq,BitVec.or_self,ite_self]
    ·rw [if_neg hq]
   cases hc:(zfh r b a).getLsbD b
   ·simp only [zb,zd3,zdc,zoq,zc,lt32 ha,nat0,ha,zs (k:=a) (by omega),ze0,hc,pkA,pkB]
    rw [zho (by simp [hc])]
    exact junk rfl
   ·simp only [zb,zd3,yx,zdc,zad,zoq,zc,u_or,lt32 ha,nat0,ha,hb,zs (k:=a) (by omega),ze0,hc,if_true,hmid,pkA,pkB]
    exact junk rfl
  ·rintro st ⟨j,rfl⟩
   simp only [zb,p9,zc,zq,zof,zs (k:=b) (by omega),pkA]
   exact junk rfl
  ·simp only [zep]
   exact junk rfl
 ·rintro st ⟨j,rfl⟩
  simp only [zb,ku,vm,zcp,yx,zq,zof,pkA,pkB]
  rfl
 ·exact junk rfl
def zxd (r:Nat→U):Bool:=zrt r fun _=>0#32
theorem zn6 (r:Nat→U) (h:Heap):DF FF zgt [agg (relV r)] h=some (.bool (zxd r),h):=by
 refine ye zv1 ?_
 simp only [zng,zb,yos,ypa,zg,ze,zqy,ymi,yx,vy,pkA,pkB]
 rw [zhk _ _ _ _ _ rfl]
 simp [zxd]
end Go.Proofs.YtljdbheclfaloaaGreatDoor.AM
namespace Go.Proofs.YtljdbheclfaloaaGreatDoor.AM
open Go.RowKit
set_option linter.unusedSimpArgs false
set_option linter.unusedVariables false
theorem Rels.len {h:Heap} {s:Value} {rs:List (Nat→U)} (e:Rels h s rs) (H:Heap):lenO H s=some (.int .i64 rs.length,H):=by
 have:=Sl.len e H
 rwa [ypd] at this
theorem Rels.at {h:Heap} {s:Value} {rs:List (Nat→U)} (e:Rels h s rs) {k:Nat} (hk:k<rs.length):∃b o v,(∀H,rowO H 32 s (.int .i64 (k:Int))=some (.pointer (some ⟨b,o,some v⟩),H))∧∀L,Heap.read (h++L) ⟨b,o,some v⟩ 32=some (relV rs[k]):=by
 obtain ⟨b,o,v,h1,h2⟩:=Sl.at e (k:=k) (by rw [ypd];exact hk)
 exact ⟨b,o,v,h1,fun L=>by rw [h2,List.getElem_map]⟩
def zch (rs:List (Nat→U)):Nat→U:=fun e=>rs.foldl (fun acc r=>acc ||| r e) 0#32
theorem zu7 (rs:List (Nat→U)) {k:Nat} (hk:k<rs.length):zch (rs.take (k+1))=fun e=>zch (rs.take k) e ||| rs[k] e:=by
 funext e;unfold zch;rw [List.take_succ_eq_append_getElem hk,List.foldl_append];rfl
theorem zm6 (rs:List (Nat→U)) (s:Value) (h:Heap) (hs:Rels h s rs) (hl:rs.length<4611686018427387904):DF FF zbh [s] h=some (agg (relV (zch rs)),h):=by
 refine ye zw0 ?_
 simp only [zm8,yos,vy,hs.len,pkA,pkB]
 refine gg rs.length (fun k st=>∃(J:Heap) (j:Nat→Value),st=⟨[j 0,j 1,.pointer (some ⟨h.length,0,some 0⟩),.pointer (some ⟨h.length+1,0,some 0⟩),j 4,j 5,j 6,s,.int .i64 rs.length,.int .i64 k,j 10,j 11,j 12,j 13,j 14,j 15,j 16,j 17,j 18,j 19,j 20,j 21,j 22,j 23,j 24,j 25,j 26],
   h++(.cells (relV fun _=>0#32) 0 false:: .cells (relV (zch (rs.take k))) 0 false::J)⟩) ?_ ?_ _ ?_
 ·rintro k st hk ⟨J,j,rfl⟩
  obtain ⟨b,o,v,hp1,hp2⟩:=hs.at hk
  have h1:(k:Int)<rs.length:=by omega
  simp only [zb,yx,h1,hp1,hp2,pkA,pkB]
  refine gg 32 (fun e st=>∃j:Nat→Value,st=⟨[j 0,j 1,.pointer (some ⟨h.length,0,some 0⟩),.pointer (some ⟨h.length+1,0,some 0⟩),j 4,.pointer (some ⟨h.length+(J.length+1+1),0,some 0⟩),j 6,s,.int .i64 rs.length,.int .i64 k,j 10,j 11,j 12,.int .i64 e,j 14,j 15,j 16,j 17,j 18,j 19,j 20,j 21,j 22,j 23,j 24,j 25,j 26],
   h++(.cells (relV fun _=>0#32) 0 false:: .cells (relV (mix e (fun e=>zch (rs.take k) e ||| rs[k] e) (zch (rs.take k)))) 0 false::(J++[.cells (relV rs[k]) 0 false]))⟩) ?_ ?_ _ ?_
  ·rintro e st he ⟨j,rfl⟩
   simp only [zb,zd3,yx,zdc,zad,zoq,zc,u_or,lt32 he,nat0,he,zs (k:=e) (by omega),pkA,pkB]
   exact junk rfl
  ·rintro st ⟨j,rfl⟩
   simp only [zb,p9,zc,zq,zof,zs (k:=k) (by omega),zu7 rs hk,pkA]
   exact ⟨_,junk rfl⟩
  ·simp only [zep]
   exact junk rfl
 ·rintro st ⟨J,j,rfl⟩
  have h1:¬((rs.length:Nat):Int)<rs.length:=by omega
  simp only [zb,ku,vm,zcp,yx,zq,h1,ypq,pkA,pkB]
 ·exact ⟨[],junk rfl⟩
def zi4 (rs:List (Nat→U)):Nat→U:=fun e=>rs.foldl (fun acc r=>acc&&&r e) (zod (yqb 32) (yqb 32) e)
theorem yae (rs:List (Nat→U)) {k:Nat} (hk:k<rs.length):zi4 (rs.take (k+1))=fun e=>zi4 (rs.take k) e&&&rs[k] e:=by
 funext e;unfold zi4;rw [List.take_succ_eq_append_getElem hk,List.foldl_append];rfl
theorem zpg (rs:List (Nat→U)) (s:Value) (h:Heap) (hs:Rels h s rs) (hl:rs.length<4611686018427387904):DF FF zdl [s] h=some (agg (relV (zi4 rs)),h):=by
 have key:∀H,DF FF zd1 [.int .u32 4294967295,.int .u32 4294967295] H=some (agg (relV (zod (yqb 32) (yqb 32))),H):=fun H=>zot (yqb 32) (yqb 32) H
 refine ye zzs ?_
 simp only [zpm,yos,yx,vy,hs.len,key,pkA,pkB]
 refine gg rs.length (fun k st=>∃(J:Heap) (j:Nat→Value),st=⟨[j 0,j 1,.pointer (some ⟨h.length,0,some 0⟩),.pointer (some ⟨h.length+1,0,some 0⟩),j 4,j 5,j 6,j 7,s,.int .i64 rs.length,.int .i64 k,j 11,j 12,j 13,j 14,j 15,j 16,j 17,j 18,j 19,j 20,j 21,j 22,j 23,j 24,j 25,j 26,j 27],
   h++(.cells (relV fun _=>0#32) 0 false:: .cells (relV (zi4 (rs.take k))) 0 false::J)⟩) ?_ ?_ _ ?_
 ·rintro k st hk ⟨J,j,rfl⟩
  obtain ⟨b,o,v,hp1,hp2⟩:=hs.at hk
  have h1:(k:Int)<rs.length:=by omega
  simp only [zb,yx,h1,hp1,hp2,pkA,pkB]
  refine gg 32 (fun e st=>∃j:Nat→Value,st=⟨[j 0,j 1,.pointer (some ⟨h.length,0,some 0⟩),.pointer (some ⟨h.length+1,0,some 0⟩),j 4,.pointer (some ⟨h.length+(J.length+1+1),0,some 0⟩),j 6,j 7,s,.int .i64 rs.length,.int .i64 k,j 11,j 12,j 13,.int .i64 e,j 15,j 16,j 17,j 18,j 19,j 20,j 21,j 22,j 23,j 24,j 25,j 26,j 27],
   h++(.cells (relV fun _=>0#32) 0 false:: .cells (relV (mix e (fun e=>zi4 (rs.take k) e&&&rs[k] e) (zi4 (rs.take k)))) 0 false::(J++[.cells (relV rs[k]) 0 false]))⟩) ?_ ?_ _ ?_
  ·rintro e st he ⟨j,rfl⟩
   simp only [zb,zd3,yx,zdc,zad,zoq,zc,yhp,lt32 he,nat0,he,zs (k:=e) (by omega),pkA,pkB]
   exact junk rfl
  ·rintro st ⟨j,rfl⟩
   simp only [zb,p9,zc,zq,zof,zs (k:=k) (by omega),yae rs hk,pkA]
   exact ⟨_,junk rfl⟩
  ·simp only [zep]
   exact junk rfl
 ·rintro st ⟨J,j,rfl⟩
  have h1:¬((rs.length:Nat):Int)<rs.length:=by omega
  simp only [zb,ku,vm,zcp,yx,zq,h1,ypq,pkA,pkB]
 ·exact ⟨[],junk rfl⟩
def twoR (a b:Nat→U):Nat→U:=fun e=>yez (a e) b
def seqK (rs:List (Nat→U)):Nat→U:=rs.foldl twoR (idR (yqb 32))
theorem yfc (rs:List (Nat→U)) {k:Nat} (hk:k<rs.length):seqK (rs.take (k+1))=fun e=>yez (seqK (rs.take k) e) rs[k]:=by
 unfold seqK;rw [List.take_succ_eq_append_getElem hk,List.foldl_append];rfl
theorem yd6 (rs:List (Nat→U)) (s:Value) (h:Heap) (hs:Rels h s rs) (hl:rs.length<4611686018427387904):DF FF zkd [s] h=some (agg (relV (seqK rs)),h):=by
 have key:∀H,DF FF zde [.int .u32 4294967295] H=some (agg (relV (idR (yqb 32))),H):=fun H=>zjr (yqb 32) H
 refine ye ybv ?_
 simp only [zsj,yos,yx,vy,hs.len,key,pkA,pkB]
 refine gg rs.length (fun k st=>∃(J:Heap) (j:Nat→Value),st=⟨[j 0,j 1,.pointer (some ⟨h.length,0,some 0⟩),.pointer (some ⟨h.length+1,0,some 0⟩),j 4,j 5,j 6,j 7,s,.int .i64 rs.length,.int .i64 k,j 11,j 12,j 13,j 14,j 15,j 16,j 17,j 18,j 19,j 20,j 21,j 22,j 23,j 24,j 25,j 26],
   h++(.cells (relV fun _=>0#32) 0 false:: .cells (relV (seqK (rs.take k))) 0 false::J)⟩) ?_ ?_ _ ?_
 ·rintro k st hk ⟨J,j,rfl⟩
  obtain ⟨b,o,v,hp1,hp2⟩:=hs.at hk
  have h1:(k:Int)<rs.length:=by omega
  simp only [zb,yx,h1,hp1,hp2,pkA,pkB]
  refine gg 32 (fun e st=>∃j:Nat→Value,st=⟨[j 0,j 1,.pointer (some ⟨h.length,0,some 0⟩),.pointer (some ⟨h.length+1,0,some 0⟩),j 4,.pointer (some ⟨h.length+(J.length+1+1),0,some 0⟩),j 6,j 7,s,.int .i64 rs.length,.int .i64 k,j 11,j 12,j 13,.int .i64 e,j 15,j 16,j 17,j 18,j 19,j 20,j 21,j 22,j 23,j 24,j 25,j 26],
   h++(.cells (relV fun _=>0#32) 0 false:: .cells (relV (mix e (fun e=>yez (seqK (rs.take k) e) rs[k]) (seqK (rs.take k)))) 0 false::(J++[.cells (relV rs[k]) 0 false]))⟩) ?_ ?_ _ ?_
  ·rintro e st he ⟨j,rfl⟩
   simp only [zb,zd3,yx,zdc,zad,zoq,zc,lt32 he,nat0,he,zs (k:=e) (by omega),yak,pkA,pkB]
   exact junk rfl
  ·rintro st ⟨j,rfl⟩
   simp only [zb,p9,zc,zq,zof,zs (k:=k) (by omega),yfc rs hk,pkA]
   exact ⟨_,junk rfl⟩
  ·simp only [zep]
   exact junk rfl
 ·rintro st ⟨J,j,rfl⟩
  have h1:¬((rs.length:Nat):Int)<rs.length:=by omega
  simp only [zb,ku,vm,zcp,yx,zq,h1,ypq,pkA,pkB]
 ·exact ⟨[],junk rfl⟩
theorem Rels.last2 (h:Heap) (f g:Nat→U):Rels (h++[.cells (relV f++relV g) 0 false]) (.slice (some ⟨h.length,0,some 0⟩) 2 32) [f,g]:=
 Sl.last (rows:=[relV f,relV g]) h (by simp) rfl (by simp [yx]) 0 false
theorem ykw (h:Heap) (a0:AObj) (L:Heap) (f g:Nat→U):DF FF zdl [.slice (some ⟨h.length+1,0,some 0⟩) 2 32] (h++(a0::AObj.cells (relV f++relV g) 0 false::L))=some (agg (relV (zi4 [f,g])),h++(a0::AObj.cells (relV f++relV g) 0 false::L)):=by
 have:=zpg [f,g] _ _ ((Rels.last2 (h++[a0]) f g).more L) (by simp)
 simpa using this
theorem zw9 (h:Heap) (a0 a1:AObj) (L:Heap) (f g:Nat→U):DF FF zbh [.slice (some ⟨h.length+2,0,some 0⟩) 2 32] (h++(a0::a1::AObj.cells (relV f++relV g) 0 false::L))=some (agg (relV (zch [f,g])),h++(a0::a1::AObj.cells (relV f++relV g) 0 false::L)):=by
 have:=zm6 [f,g] _ _ ((Rels.last2 (h++[a0,a1]) f g).more L) (by simp)
 simpa using this
theorem yh2 (h:Heap) (a0 a1 a2 a3:AObj) (L:Heap) (f g:Nat→U):DF FF zbh [.slice (some ⟨h.length+4,0,some 0⟩) 2 32] (h++(a0::a1::a2::a3::AObj.cells (relV f++relV g) 0 false::L))=some (agg (relV (zch [f,g])),h++(a0::a1::a2::a3::AObj.cells (relV f++relV g) 0 false::L)):=by
 have:=zm6 [f,g] _ _ ((Rels.last2 (h++[a0,a1,a2,a3]) f g).more L) (by simp)
 simpa using this
theorem yk3 (h:Heap) (a0 a1 a2 a3:AObj) (L:Heap) (f g:Nat→U):DF FF zdl [.slice (some ⟨h.length+4,0,some 0⟩) 2 32] (h++(a0::a1::a2::a3::AObj.cells (relV f++relV g) 0 false::L))=some (agg (relV (zi4 [f,g])),h++(a0::a1::a2::a3::AObj.cells (relV f++relV g) 0 false::L)):=by
 have:=zpg [f,g] _ _ ((Rels.last2 (h++[a0,a1,a2,a3]) f g).more L) (by simp)
 simpa using this
theorem ynd (h:Heap) (a0 a1 a2 a3:AObj) (L:Heap) (f g:Nat→U):DF FF zkd [.slice (some ⟨h.length+4,0,some 0⟩) 2 32] (h++(a0::a1::a2::a3::AObj.cells (relV f++relV g) 0 false::L))=some (agg (relV (seqK [f,g])),h++(a0::a1::a2::a3::AObj.cells (relV f++relV g) 0 false::L)):=by
 have:=yd6 [f,g] _ _ ((Rels.last2 (h++[a0,a1,a2,a3]) f g).more L) (by simp)
 simpa using this
end Go.Proofs.YtljdbheclfaloaaGreatDoor.AM
namespace Go.Proofs.YtljdbheclfaloaaGreatDoor.AM
open Go.RowKit
set_option linter.unusedSimpArgs false
set_option linter.unusedVariables false
def ynm (r:Nat→U):Nat→Nat→Bool:=fun a b=>(r a).getLsbD b
def zjb (t:Nat→Nat→Bool):Nat→Nat→Nat→Bool
 | 0=>t
 | k+1=>fun a b=>zjb t k a b || (zjb t k a k&&zjb t k k b)
end Go.Proofs.YtljdbheclfaloaaGreatDoor.AM
namespace Go.Proofs.YtljdbheclfaloaaGreatDoor.AM
open Go.RowKit
set_option linter.unusedSimpArgs false
set_option linter.unusedVariables false
theorem zzf (u:U) (r:Nat→U) (h:Heap):DF FF zky [.int .u32 u.toNat,agg (relV r)] h=some (agg (relV (zch [zim r,idR u])),h):=by
 refine ye zzh ?_
 simp only [zpn,zb,yor,yos,slc,zkv,ku,vm,zcp,zg,ze,yx,vy,zlf,zjr,zw9,pkA,pkB]
theorem zvd (u:U) (r:Nat→U) (h:Heap):DF FF zjj [.int .u32 u.toNat,agg (relV r)] h=some (agg (relV (zch [r,idR u])),h):=by
 refine ye zul ?_
 simp only [znf,zb,yor,yos,slc,zkv,ku,vm,zcp,zg,ze,yfd,zs4,yx,vy,zjr,zw9,pkA,pkB]
def zu9 (r:Nat→U):Bool:=zxd (zi4 [r,idR (yqb 32)])
theorem zfs (r:Nat→U) (h:Heap):DF FF zan [agg (relV r)] h=some (.bool (zu9 r),h):=by
 have key:∀H,DF FF zde [.int .u32 4294967295] H=some (agg (relV (idR (yqb 32))),H):=fun H=>zjr (yqb 32) H
 refine ye zlm ?_
 simp only [zfw,zb,yos,slc,zkv,zg,ze,yfd,zs4,yx,vy,key,ykw,zn6,pkA,pkB]
 rw [zhk _ _ _ _ _ rfl]
 rfl
def zw2 (r:Nat→U):Bool:=zu9 (zim r)
theorem zq0 (r:Nat→U) (h:Heap):DF FF zgc [agg (relV r)] h=some (.bool (zw2 r),h):=by
 refine ye zry ?_
 simp only [zke,zb,yos,zg,ze,yx,zlf,zfs,pkA,pkB]
 rw [zhk _ _ _ _ _ rfl]
 rfl
end Go.Proofs.YtljdbheclfaloaaGreatDoor.AM
namespace Go.Proofs.YtljdbheclfaloaaGreatDoor.AM
open Go.RowKit
set_option linter.unusedSimpArgs false
set_option linter.unusedVariables false
end Go.Proofs.YtljdbheclfaloaaGreatDoor.AM
namespace Go.Proofs.YtljdbheclfaloaaGreatDoor.AM
open Go.RowKit
set_option linter.unusedSimpArgs false
set_option linter.unusedVariables false
abbrev Bt (r:Nat→U) (a b:Nat):Prop:=(r a).getLsbD b=true
theorem bool_iff {x y:Bool}:x=y↔(x=true↔y=true):=by cases x <;> cases y <;> simp
theorem yj5 {f g:Nat→U} (h:∀a b,a<32→b<32→(Bt f a b↔Bt g a b)):zrt f g=true:=
 sameR_iff.2 fun k hk=>yj6 fun i hi=>bool_iff.2 (h k i hk hi)
theorem zjg {i:Nat} (hi:i<32):(yqb 32).getLsbD i=true:=by rw [BitVec.getLsbD_allOnes];simp [hi]
theorem yij (s:U) (a:Nat) {b:Nat} (hb:b<32):Bt (idR s) a b↔s.getLsbD b=true∧b=a:=by
 unfold Bt idR;rw [BitVec.getLsbD_and,yls hb,ypi,decide_eq_true_eq]
theorem ych (s t:U) (a b:Nat):Bt (zod s t) a b↔s.getLsbD a=true∧t.getLsbD b=true:=by
 unfold Bt zod;cases h:s.getLsbD a <;> simp
theorem yfb (f g:Nat→U) (a:Nat) {b:Nat} (hb:b<32):Bt (zqb f g) a b↔Bt f a b∧¬Bt g a b:=by
 unfold Bt zqb;rw [BitVec.getLsbD_and,BitVec.getLsbD_not];simp [hb]
theorem ygi (rs:List (Nat→U)) (e:Nat) (x:U) (b:Nat):((rs.foldl (fun acc r=>acc ||| r e) x).getLsbD b=true)↔(x.getLsbD b=true∨∃r∈rs,Bt r e b):=by
 induction rs generalizing x with
 | nil=>simp
 | cons r rs ih=>
  rw [List.foldl_cons,ih,BitVec.getLsbD_or,yqa]
  simp only [ypx,exists_eq_or_imp,or_assoc]
theorem ydw (rs:List (Nat→U)) (a b:Nat):Bt (zch rs) a b↔∃r∈rs,Bt r a b:=by
 unfold Bt zch;rw [ygi];simp
theorem ybu (rs:List (Nat→U)) (e:Nat) (x:U) (b:Nat):((rs.foldl (fun acc r=>acc&&&r e) x).getLsbD b=true)↔(x.getLsbD b=true∧∀r∈rs,Bt r e b):=by
 induction rs generalizing x with
 | nil=>simp
 | cons r rs ih=>
  rw [List.foldl_cons,ih,BitVec.getLsbD_and,ypi]
  simp only [List.forall_mem_cons,and_assoc]
theorem ygt (rs:List (Nat→U)) {a b:Nat} (ha:a<32) (hb:b<32):Bt (zi4 rs) a b↔∀r∈rs,Bt r a b:=by
 unfold Bt zi4;rw [ybu]
 have:Bt (zod (yqb 32) (yqb 32)) a b:=(ych _ _ a b).2 ⟨zjg ha,zjg hb⟩
 exact ⟨fun h=>h.2,fun h=>⟨this,h⟩⟩
theorem yc3 (s:U) (r:Nat→U) (k b:Nat):(zk2 s r k).getLsbD b=true↔∃e,e<k∧s.getLsbD e=true∧Bt r e b:=by
 induction k with
 | zero=>simp [zk2]
 | succ k ih=>
  rw [zk2]
  constructor
  ·intro h
   split at h
   ·rename_i hs
    rw [BitVec.getLsbD_or,yqa,ih] at h
    rcases h with ⟨e,he,h1,h2⟩ | h
    ·exact ⟨e,by omega,h1,h2⟩
    ·exact ⟨k,by omega,hs,h⟩
   ·obtain ⟨e,he,h1,h2⟩:=ih.1 h
    exact ⟨e,by omega,h1,h2⟩
  ·rintro ⟨e,he,h1,h2⟩
   by_cases hk:e=k
   ·subst hk;rw [if_pos h1,BitVec.getLsbD_or,yqa];exact .inr h2
   ·have:=ih.2 ⟨e,by omega,h1,h2⟩
    split
    ·rw [BitVec.getLsbD_or,this];rfl
    ·exact this
theorem ygj (s:U) (r:Nat→U) (b:Nat):(yez s r).getLsbD b=true↔∃e,e<32∧s.getLsbD e=true∧Bt r e b:=yc3 s r 32 b
theorem zr0 (f g:Nat→U) (a b:Nat):Bt (twoR f g) a b↔∃e,e<32∧Bt f a e∧Bt g e b:=ygj _ _ _
theorem ymh (f:Nat→U) {a:Nat} (ha:a<32):twoR (idR (yqb 32)) f a=f a:=by
 refine yj6 fun i hi=>bool_iff.2 ?_
 rw [show ((twoR (idR (yqb 32)) f a).getLsbD i=true)=Bt (twoR (idR (yqb 32)) f) a i from rfl,zr0]
 constructor
 ·rintro ⟨e,he,h1,h2⟩
  rw [yij _ _ he] at h1
  rw [←h1.2];exact h2
 ·intro h
  exact ⟨a,ha,(yij _ _ ha).2 ⟨zjg ha,rfl⟩,h⟩
theorem yb2 {f f' g g':Nat→U} {a:Nat} (ha:f a=f' a) (hg:∀e,e<32→g e=g' e):twoR f g a=twoR f' g' a:=by
 refine yj6 fun i hi=>bool_iff.2 ?_
 rw [show ((twoR f g a).getLsbD i=true)=Bt (twoR f g) a i from rfl,show ((twoR f' g' a).getLsbD i=true)=Bt (twoR f' g') a i from rfl,zr0,zr0]
 unfold Bt
 rw [ha]
 exact ⟨fun ⟨e,he,h1,h2⟩=>⟨e,he,h1,by rw [←hg e he];exact h2⟩,fun ⟨e,he,h1,h2⟩=>⟨e,he,h1,by rw [hg e he];exact h2⟩⟩
theorem yfy (f g:Nat→U) {a:Nat} (ha:a<32) (b:Nat):Bt (seqK [f,g]) a b↔∃e,e<32∧Bt f a e∧Bt g e b:=by
 have:seqK [f,g] a=twoR f g a:=yb2 (ymh f ha) fun _ _=>rfl
 unfold Bt;rw [this];exact zr0 f g a b
theorem yhm (r:Nat→U) (k:Nat) (hk:k≤32) (b:Nat) {a:Nat} (ha:a<32):Bt (invK r k) b a↔a<k∧Bt r a b:=by
 induction k with
 | zero=>simp [invK,Bt]
 | succ k ih=>
  have ih:=ih (by omega)
  unfold Bt at ih ⊢
  rw [invK]
  simp only
  by_cases hc:(r k).getLsbD b=true
  ·rw [if_pos hc,BitVec.getLsbD_or,yqa,ih,yls ha,decide_eq_true_eq]
   constructor
   ·rintro (⟨h1,h2⟩ | h)
    ·exact ⟨by omega,h2⟩
    ·subst h;exact ⟨by omega,hc⟩
   ·rintro ⟨h1,h2⟩
    by_cases h:a=k
    ·exact .inr h
    ·exact .inl ⟨by omega,h2⟩
  ·rw [if_neg hc,ih]
   constructor
   ·rintro ⟨h1,h2⟩;exact ⟨by omega,h2⟩
   ·rintro ⟨h1,h2⟩
    have:a≠k:=by rintro rfl;exact hc h2
    exact ⟨by omega,h2⟩
theorem yk9 (r:Nat→U) (b:Nat) {a:Nat} (ha:a<32):Bt (invR r) b a↔Bt r a b:=by
 unfold invR;rw [yhm r 32 (yoz _) b ha];simp [ha]
theorem zqk (r:Nat→U) (k:Nat) (hk:k≤32) (a b:Nat):(zfh r k a).getLsbD b=zjb (ynm r) k a b:=by
 induction k generalizing a b with
 | zero=>rfl
 | succ k ih=>
  have ih:=ih (by omega)
  rw [zfh,zjb]
  simp only
  rw [←ih a b,←ih a k,←ih k b]
  split
  ·rename_i h;rw [h,BitVec.getLsbD_or];rfl
  ·rename_i h;simp at h;rw [h];simp
theorem yhy (t:Nat→Nat→Bool) (k:Nat) {a b:Nat} (h:t a b=true):zjb t k a b=true:=by
 induction k with
 | zero=>exact h
 | succ k ih=>rw [zjb];simp only;rw [ih];rfl
theorem zwm (t:Nat→Nat→Bool) (k:Nat):∀a m b,m<k→zjb t k a m=true→zjb t k m b=true→zjb t k a b=true:=by
 induction k with
 | zero=>intro a m b h;omega
 | succ k ih=>
  intro a m b hm h1 h2
  rw [zjb] at h1 h2 ⊢
  simp only [yqa,ypi] at h1 h2 ⊢
  by_cases e:m=k
  ·subst e
   have g1:zjb t m a m=true:=by
     rcases h1 with h | h
     ·exact h
     ·exact h.1
   have g2:zjb t m m b=true:=by
     rcases h2 with h | h
     ·exact h
     ·exact h.2
   exact .inr ⟨g1,g2⟩
  ·have hmk:m<k:=by omega
   rcases h1 with h1 | ⟨h1,h1'⟩
   ·rcases h2 with h2 | ⟨h2,h2'⟩
    ·exact .inl (ih a m b hmk h1 h2)
    ·exact .inr ⟨ih a m k hmk h1 h2,h2'⟩
   ·rcases h2 with h2 | ⟨h2,h2'⟩
    ·exact .inr ⟨h1,ih k m b hmk h1' h2⟩
    ·exact .inr ⟨h1,h2'⟩
theorem zu3 (t:Nat→Nat→Bool) (S:Nat→Nat→Prop) (hs:∀a b,t a b=true→S a b) (k:Nat) (ht:∀a m b,m<k→S a m→S m b→S a b):∀a b,zjb t k a b=true→S a b:=by
 induction k with
 | zero=>exact hs
 | succ k ih=>
  intro a b h
  have ih:=ih fun a m b hm=>ht a m b (by omega)
  rw [zjb] at h
  simp only [yqa,ypi] at h
  rcases h with h | ⟨h1,h2⟩
  ·exact ih a b h
  ·exact ht a k b (by omega) (ih a k h1) (ih k b h2)
theorem yky (r:Nat→U) {a b:Nat} (h:Bt r a b):Bt (zim r) a b:=by
 unfold Bt zim;rw [zqk r 32 (yoz _)];exact yhy _ _ h
theorem zz7 (r:Nat→U) {a m b:Nat} (hm:m<32) (h1:Bt (zim r) a m) (h2:Bt (zim r) m b):Bt (zim r) a b:=by
 unfold Bt zim at *;rw [zqk r 32 (yoz _)] at *;exact zwm _ _ a m b hm h1 h2
theorem yah (r:Nat→U) (S:Nat→Nat→Prop) (hs:∀a b,Bt r a b→S a b) (ht:∀a m b,m<32→S a m→S m b→S a b) {a b:Nat} (h:Bt (zim r) a b):S a b:=by
 unfold Bt zim at h;rw [zqk r 32 (yoz _)] at h
 exact zu3 _ S hs 32 ht a b h
theorem yma (x:U):(((x.toNat:Int)==0):Bool)=(x==0#32):=u_eq x 0#32
end Go.Proofs.YtljdbheclfaloaaGreatDoor.AM
namespace Go.Proofs.YtljdbheclfaloaaGreatDoor.AM
open Go.RowKit
set_option linter.unusedSimpArgs false
set_option linter.unusedVariables false
set_option maxRecDepth 20000
/-- What a name or a part stands for: a set, a relation. -/
structure Vv where
 s:U
 r:Nat→U
def v0:Vv:=⟨0#32,fun _=>0#32⟩
abbrev En:=List (Bys×Bool×Vv)
def p8 (w:Bys):En→Option (Bool×Vv)
 | []=>none
 | (k,b,v)::r=>if w==k then some (b,v) else p8 w r
def evU (u:U) (o:Op1) (v:Vv):Vv:=match o with
 | .plus=>⟨0#32,zim v.r⟩
 | .star=>⟨0#32,zch [zim v.r,idR u]⟩
 | .maybe=>⟨0#32,zch [v.r,idR u]⟩
 | .inv=>⟨0#32,invR v.r⟩
def evB (o:Op2) (a b:Vv):Vv:=match o with
 | .or=>⟨a.s ||| b.s,zch [a.r,b.r]⟩
 | .and=>⟨a.s&&&b.s,zi4 [a.r,b.r]⟩
 | .minus=>⟨a.s&&& ~~~ b.s,zqb a.r b.r⟩
 | .seq=>⟨0#32,seqK [a.r,b.r]⟩
 | .cross=>⟨0#32,zod a.s b.s⟩
def evE (u:U) (env:En):Ex→Vv
 | .name _ _ w=>((p8 w env).map (·.2)).getD v0
 | .zero _=>v0
 | .par _ _ e=>evE u env e
 | .box _ e=>⟨0#32,idR (evE u env e).s⟩
 | .un o e=>evU u o (evE u env e)
 | .bin _ o l r=>evB o (evE u env l) (evE u env r)
def Typ (kn:Kn):Ex→Prop
 | .name s _ w=>wn kn w=some s
 | .zero _=>True
 | .par s _ e=>s=e.set∧Typ kn e
 | .box _ e=>e.set=true∧Typ kn e
 | .un _ e=>e.set=false∧Typ kn e
 | .bin s o l r=>Typ kn l∧Typ kn r∧(match o with | .seq=>l.set=false∧r.set=false | .cross=>l.set=true∧r.set=true | _=>s=l.set∧r.set=l.set)
theorem zf8 {kn:Kn} {rc:List Bys}:∀{e e':Ex} {rt:Bool},chkE kn rc rt e=.ok e'→Typ kn e'
 | .name s a w,e',rt,h=>by
  rw [chkE] at h
  split at h
  ·cases h
  ·rename_i t ht
   split at h
   ·cases h
   ·cases h;exact ht
 | .zero a,e',rt,h=>by rw [chkE] at h;cases h;trivial
 | .par s a e,e',rt,h=>by
  rw [chkE] at h
  split at h
  ·cases h
  ·rename_i x hx
   cases h;exact ⟨rfl,zf8 hx⟩
 | .box a e,e',rt,h=>by
  rw [chkE] at h
  split at h
  ·cases h
  ·rename_i x hx
   split at h
   ·rename_i hs;cases h;exact ⟨hs,zf8 hx⟩
   ·cases h
 | .un o e,e',rt,h=>by
  rw [chkE] at h
  split at h
  ·cases h
  ·rename_i x hx
   split at h
   ·cases h
   ·rename_i hs;cases h;exact ⟨by simpa using hs,zf8 hx⟩
 | .bin s o l r,e',rt,h=>by
  rw [chkE] at h
  cases hl:chkE kn rc rt l with
  | bad c a=>rw [hl] at h;cases h
  | ok l'=>
   rw [hl] at h
   simp only at h
   cases hr:chkE kn rc (rt || o== .minus) r with
   | bad c a=>rw [hr] at h;cases h
   | ok r'=>
    rw [hr] at h
    have tl:=zf8 hl
    have tr:=zf8 hr
    cases o
    case seq=>
     simp only at h
     split at h
     ·cases h
     ·split at h
      ·cases h
      ·rename_i h1 h2;cases h;exact ⟨tl,tr,by simpa using h1,by simpa using h2⟩
    case cross=>
     simp only at h
     split at h
     ·cases h
     ·split at h
      ·cases h
      ·rename_i h1 h2;cases h;exact ⟨tl,tr,by simpa using h1,by simpa using h2⟩
    all_goals
     simp only at h
     split at h
     ·cases h
     ·rename_i h1;cases h;exact ⟨tl,tr,rfl,by simpa using h1⟩
def wo (nm:Bys) (st:Bool) (v:Vv):List Value:=str nm:: .bool st:: .int .u32 (v.s.toNat:Int)::relV v.r
theorem fh (nm:Bys) (st:Bool) (v:Vv):(wo nm st v).length=35:=by simp [wo,yx]
theorem bd_0 (nm:Bys) (st:Bool) (v:Vv):(wo nm st v)[0]?=some (str nm):=rfl
theorem bd_1 (nm:Bys) (st:Bool) (v:Vv):(wo nm st v)[1]?=some (.bool st):=rfl
theorem bd_2 (nm:Bys) (st:Bool) (v:Vv):(wo nm st v)[2]?=some (.int .u32 (v.s.toNat:Int)):=rfl
theorem ycb (nm:Bys) (st:Bool) (v:Vv):((wo nm st v).drop 3).take 32=relV v.r:=by
 show (relV v.r).take 32=relV v.r
 exact ypy (by rw [yx];exact yoz _)
theorem ygs (nm:Bys) (st:Bool) (v:Vv):(wo nm st v).all plain1=true:=by
 have:=zp1 v.r
 unfold wo
 rw [List.all_cons,List.all_cons,List.all_cons,this];rfl
theorem zai:(str []:: .bool false::List.replicate 33 (.int .u32 0):List Value)=wo [] false v0:=by
 unfold wo
 rw [show List.replicate 33 (Value.int .u32 0)=.int .u32 0::List.replicate 32 (.int .u32 0) from rfl,vy];rfl
theorem zk8 (nm nm':Bys) (st:Bool) (v:Vv):(wo nm st v).set 0 (str nm')=wo nm' st v:=rfl
theorem ze5 (nm:Bys) (st st':Bool) (v:Vv):(wo nm st v).set 1 (.bool st')=wo nm st' v:=rfl
theorem ydj (nm:Bys) (st:Bool) (v:Vv) (x:U):(wo nm st v).set 2 (.int .u32 (x.toNat:Int))=wo nm st ⟨x,v.r⟩:=rfl
theorem yjl (nm:Bys) (st:Bool) (v:Vv) (L:Heap):Heap.read (.cells (wo nm st v) 0 false::L) ⟨0,3,some 0⟩ 32=some (relV v.r):=by
 simp only [Heap.read,List.getElem?_cons_zero]
 rw [if_pos ⟨trivial,by rw [fh];decide⟩,ycb]
theorem ygx (nm:Bys) (st:Bool) (v:Vv) (r:Nat→U) (L:Heap):Heap.write (.cells (wo nm st v) 0 false::L) ⟨0,3,some 0⟩ (relV r)=some (.cells (wo nm st ⟨v.s,r⟩) 0 false::L):=by
 simp only [Heap.write,List.getElem?_cons_zero,List.set_cons_zero]
 rw [if_pos ⟨trivial,by rw [fh,yx];decide⟩]
 have:splice (wo nm st v) 3 (relV r)=wo nm st ⟨v.s,r⟩:=by
  unfold splice
  rw [yx]
  show (str nm:: .bool st:: .int .u32 (v.s.toNat:Int)::([]++relV r++(relV v.r).drop 32))=_
  rw [yo5 (by rw [yx];exact yoz _)]
  simp [wo]
 rw [this]
theorem zjl (h L:Heap) (nm:Bys) (st:Bool) (v:Vv):outE h (h++L) (some (wo nm st v))=some (agg (wo nm st v),h):=zph h L (ygs nm st v)
theorem ye9 (f g:Nat→U):zbs (List.replicate 32 .int) (relV f) (relV g)=some (zrt f g):=by
 have:=zto (zc2 32 f) (zc2 32 g) (by rw [bn,bn])
 rw [bn] at this
 have e:∀f:Nat→U,(zc2 32 f).map (fun x=>Value.int .u32 (x.toNat:Int))=relV f:=fun f=>by unfold relV zc2;rw [List.map_map];rfl
 rw [e,e] at this
 exact this
def ybo (a b:Vv):Bool:=a.s==b.s&&zrt a.r b.r
theorem zxz (a b:Bys):ve .str (str a) (str b)=some (a==b):=by
 show some ((⟨a.toArray⟩:ByteArray)==⟨b.toArray⟩)=_
 rw [zn5]
theorem yni (h:Heap) (neg:Bool) (n1 n2:Bys) (s1 s2:Bool) (v1 v2:Vv):zl5 h neg (.str:: .bool:: .int::List.replicate 32 .int) (agg (wo n1 s1 v1)) (agg (wo n2 s2 v2))=some (.bool ((n1==n2&&(s1==s2&&ybo v1 v2)) !=neg),h):=by
 refine zlv h (by rw [fh];simp) (by rw [fh];simp) ?_
 unfold wo ybo
 rw [zbs,zxz]
 cases h1:n1==n2
 ·simp
 ·simp only [yp2]
  rw [zbs]
  simp only [ve]
  cases h2:s1==s2
  ·simp
  ·simp only [yp2]
   rw [zbs]
   simp only [ve,if_true]
   rw [u_eq]
   cases h3:v1.s==v2.s
   ·simp
   ·simp only [yp2]
    exact ye9 _ _
/-! Names' values in memory. -/
def enE (env:En):List (Value×Value):=env.map fun p=>(str p.1,agg (wo p.1 p.2.1 p.2.2))
theorem yd1 (env:En) (w:Bys):findKey .str (str w) (enE env)=some ((p8 w env).map fun p=>agg (wo w p.1 p.2)):=by
 induction env with
 | nil=>rfl
 | cons p r ih=>
  obtain ⟨k,b,v⟩:=p
  show findKey .str (str w) ((str k,agg (wo k b v))::enE r)=_
  rw [findKey,zpk,p8]
  cases h:w==k
  ·simpa using ih
  ·have:w=k:=eq_of_beq h
   subst this
   simp
def setE (w:Bys) (b:Bool) (v:Vv):En→En
 | []=>[(w,b,v)]
 | (k,c,x)::r=>if w==k then (w,b,v)::r else (k,c,x)::setE w b v r
theorem yi3 (w:Bys) (b:Bool) (v:Vv) (env:En):za6 .str (str w) (agg (wo w b v)) (enE env)=some (enE (setE w b v env)):=by
 induction env with
 | nil=>rfl
 | cons p r ih=>
  obtain ⟨k,c,x⟩:=p
  show za6 .str (str w) (agg (wo w b v)) ((str k,agg (wo k c x))::enE r)=_
  rw [za6,zpk,setE]
  cases h:w==k
  ·simp only [enE] at ih ⊢;simp [ih]
  ·have:w=k:=eq_of_beq h
   subst this
   simp [enE]
def kdE (env:En):Ex→Bool
 | .name _ _ w=>((p8 w env).map (·.1)).getD false
 | .zero _=>false
 | .par _ _ e=>kdE env e
 | .box _ _=>false
 | .un _ _=>false
 | .bin s _ _ _=>s
def nmE (env:En):Ex→Bys
 | .name _ _ w=>((p8 w env).map fun _=>w).getD []
 | .par _ _ e=>nmE env e
 | _=>[]
structure Wd (h:Heap) (q km:Nat) (u:U) (env:En):Prop where
 hq:h[q]?=some (.cells [.int .u32 (u.toNat:Int),.map (some km)] 0 false)
 hk:h[km]?=some (.map (enE env))
theorem Wd.more {h:Heap} {q km:Nat} {u:U} {env:En} (W:Wd h q km u env) (L:Heap):Wd (h++L) q km u env:=⟨zm L W.hq,zm L W.hk⟩
def zg2 (u:U) (env:En) (e:Ex):Prop:=∀(h:Heap) (q km:Nat) (S:Nat→Prop) (v:Value),Wd h q km u env→TreeP h S v e→DF FF x9 [pt q,v] h=some (agg (wo (nmE env e) (kdE env e) (evE u env e)),h)
set_option maxHeartbeats 4000000 in
theorem zy2 (u:U) (env:En) (s:Bool) (a:Nat) (w:Bys):zg2 u env (.name s a w):=by
 intro h q km S v W tr
 obtain ⟨b,rfl,hbS,hbo⟩:=tr
 refine ye gc ?_
 have rb:∀L j,Heap.read1 (h++L) ⟨b,j,some 0⟩=(xt zhm w a nilP nilP s)[j]?:=fun L j=>zr (zm L hbo)
 have rq:∀L j,Heap.read1 (h++L) ⟨q,j,some 0⟩=([.int .u32 (u.toNat:Int),.map (some km)]:List Value)[j]?:=fun L j=>zr (W.more L).hq
 have lk:∀L,zqo (h++L) .str (agg (wo [] false v0)) false (.map (some km)) (str w)=_:=fun L=>zi2 _ (W.more L).hk (agg (wo [] false v0)) false (w:=w) (yd1 env w)
 cases hl:p8 w env with
 | none=>
  simp only [hl,Option.map_none,zld,yoy,if_false] at lk
  simp only [evE,kdE,nmE,hl,Option.map_none,Option.getD_none]
  simp only [qg,zb,ypc,yor,yos,yo4,yz,zf,yf,ku,vm,vy,zai,fh,ze5,zjl,rb,rq,vz,zje,vk,vh,zc1,fo,lk,xm,zl,zhm,pkA,pkB]
 | some p=>
  simp only [hl,yp6,zld,yoy,if_false] at lk
  simp only [evE,kdE,nmE,hl,yp6,Option.getD_some]
  simp only [qg,zb,ypc,yor,yos,yo4,yz,zf,yf,ku,vm,vy,zai,fh,ze5,zjl,rb,rq,vz,zje,vk,vh,zc1,fo,lk,xm,zl,zhm,pkA,pkB]
set_option maxHeartbeats 4000000 in
theorem zyv (u:U) (env:En) (a:Nat):zg2 u env (.zero a):=by
 intro h q km S v W tr
 obtain ⟨b,rfl,hbS,hbo⟩:=tr
 refine ye gc ?_
 have rb:∀L j,Heap.read1 (h++L) ⟨b,j,some 0⟩=(xt [48] [] a nilP nilP false)[j]?:=fun L j=>zr (zm L hbo)
 have rq:∀L j,Heap.read1 (h++L) ⟨q,j,some 0⟩=([.int .u32 (u.toNat:Int),.map (some km)]:List Value)[j]?:=fun L j=>zr (W.more L).hq
 simp only [qg,zb,ypc,yor,yos,yo4,yz,zf,yf,ku,vm,vy,zai,fh,ze5,zjl,rb,vz,vk,vh,zc1,xm,zl,zum,zuh,zuv,zv8,zva,zve,zux,zvp,zvk,zuw,zqq,zrj,pkA,pkB]
 rfl
set_option maxHeartbeats 8000000 in
theorem yem (u:U) (env:En) (s:Bool) (a:Nat) (e:Ex) (ih:zg2 u env e):zg2 u env (.par s a e):=by
 intro h q km S v W tr
 obtain ⟨b,S',x,rfl,hbS,hbo,tx,-⟩:=tr
 have q1:=fun L=>ih (h++L) q km S' x (W.more L) (tx.keep fun _ _ _ ho=>zm L ho)
 refine ye gc ?_
 have rb:∀L j,Heap.read1 (h++L) ⟨b,j,some 0⟩=(xt [40] [] a x nilP s)[j]?:=fun L j=>zr (zm L hbo)
 have rq:∀L j,Heap.read1 (h++L) ⟨q,j,some 0⟩=([.int .u32 (u.toNat:Int),.map (some km)]:List Value)[j]?:=fun L j=>zr (W.more L).hq
 obtain ⟨bx,op',w',p',r',hxb,_,_⟩:=tx.root
 subst hxb
 simp only [qg,zb,ypc,yor,yos,yo4,yz,zf,yf,ku,vm,vy,zai,fh,ze5,zjl,rb,vz,vk,vh,zc1,xm,zj,zl,ydy,q1,pkA,pkB]
 rfl
set_option maxHeartbeats 8000000 in
theorem yd3 (u:U) (env:En) (a:Nat) (e:Ex) (ih:zg2 u env e):zg2 u env (.box a e):=by
 intro h q km S v W tr
 obtain ⟨b,S',x,rfl,hbS,hbo,tx,-⟩:=tr
 have q1:=fun L=>ih (h++L) q km S' x (W.more L) (tx.keep fun _ _ _ ho=>zm L ho)
 refine ye gc ?_
 have rb:∀L j,Heap.read1 (h++L) ⟨b,j,some 0⟩=(xt [91] [] a x nilP false)[j]?:=fun L j=>zr (zm L hbo)
 have rq:∀L j,Heap.read1 (h++L) ⟨q,j,some 0⟩=([.int .u32 (u.toNat:Int),.map (some km)]:List Value)[j]?:=fun L j=>zr (W.more L).hq
 obtain ⟨bx,op',w',p',r',hxb,_,_⟩:=tx.root
 subst hxb
 simp only [qg,zb,ypc,yor,yos,yo4,yz,zf,yf,ku,vm,vy,yx,zai,fh,bd_2,ze5,ygx,zjl,rb,vz,vk,vh,zc1,xm,zj,zl,zs0,zt0,ztr,zpz,ztw,zs7,yl6,q1,zjr,pkA,pkB]
 rfl
set_option maxHeartbeats 8000000 in
theorem yg5 (u:U) (env:En) (o:Op1) (e:Ex) (ih:zg2 u env e):zg2 u env (.un o e):=by
 intro h q km S v W tr
 obtain ⟨b,S',x,rfl,hbS,hbo,tx,-⟩:=tr
 have q1:=fun L=>ih (h++L) q km S' x (W.more L) (tx.keep fun _ _ _ ho=>zm L ho)
 refine ye gc ?_
 have rb:∀L j,Heap.read1 (h++L) ⟨b,j,some 0⟩=(xt (op1S o) [] e.pl x nilP false)[j]?:=fun L j=>zr (zm L hbo)
 have rq:∀L j,Heap.read1 (h++L) ⟨q,j,some 0⟩=([.int .u32 (u.toNat:Int),.map (some km)]:List Value)[j]?:=fun L j=>zr (W.more L).hq
 obtain ⟨bx,op',w',p',r',hxb,_,_⟩:=tx.root
 subst hxb
 cases o
 all_goals
  simp only [qg,zb,ypc,yor,yos,yo4,yz,zf,yf,ku,vm,vy,yx,zai,fh,ze5,yjl,ygx,zjl,rb,rq,vz,vk,vh,zc1,xm,zj,zl,op1S,ybs,ybq,ycn,zx8,yd7,yfi,ybm,yfm,yb3,ya6,ycq,zxe,ya4,yc9,ya3,yev,yb8,zv0,zwo,zuk,zrv,zv3,zwi,zuy,zwg,zvr,zvn,zwf,zu5,zuc,zqi,zvc,zwy,zv4,zu4,zwx,zwv,zr1,q1,zlf,zzf,zvd,zrk,pkA,pkB]
  rfl
set_option maxHeartbeats 8000000 in
theorem ybx (u:U) (env:En) (s:Bool) (o:Op2) (l r:Ex) (ihl:zg2 u env l) (ihr:zg2 u env r):zg2 u env (.bin s o l r):=by
 intro h q km S v W tr
 obtain ⟨b,S1,S2,xv,yv,rfl,hbS,hbo,tx,ty,hs1,hs2⟩:=tr
 have q1:=fun L=>ihl (h++L) q km S1 xv (W.more L) (tx.keep fun _ _ _ ho=>zm L ho)
 have q2:=fun L=>ihr (h++L) q km S2 yv (W.more L) (ty.keep fun _ _ _ ho=>zm L ho)
 refine ye gc ?_
 have rb:∀L j,Heap.read1 (h++L) ⟨b,j,some 0⟩=(xt (op2S o) [] l.pl xv yv s)[j]?:=fun L j=>zr (zm L hbo)
 have rq:∀L j,Heap.read1 (h++L) ⟨q,j,some 0⟩=([.int .u32 (u.toNat:Int),.map (some km)]:List Value)[j]?:=fun L j=>zr (W.more L).hq
 obtain ⟨bx,_,_,_,_,hxb,_,_⟩:=tx.root
 subst hxb
 obtain ⟨by_,_,_,_,_,hyb,_,_⟩:=ty.root
 subst hyb
 cases o
 all_goals
  simp only [qg,zb,ypc,yor,yos,slc,zz4,yo4,yz,zak,zf,yf,ku,vm,u_or,yhp,zxl,zkv,vy,yx,zai,fh,bd_2,ze5,ydj,yjl,ygx,zjl,rb,vz,vk,vh,zc1,zj,zl,op2S,yir,ym7,yiw,yjh,ymr,yit,yix,yjg,ymq,yim,yi7,yi9,zyb,ynh,yih,yiy,yi5,zyo,yji,ymg,q1,q2,zwt,zot,yh2,yk3,ynd,pkA,pkB]
  rfl
theorem zhl (u:U) (env:En):∀e,zg2 u env e
 | .name s a w=>zy2 u env s a w
 | .zero a=>zyv u env a
 | .par s a e=>yem u env s a e (zhl u env e)
 | .box a e=>yd3 u env a e (zhl u env e)
 | .un o e=>yg5 u env o e (zhl u env e)
 | .bin s o l r=>ybx u env s o l r (zhl u env l) (zhl u env r)
theorem zag (w k:Bys) (b:Bool) (v:Vv):∀env:En,p8 w (setE k b v env)=if w==k then some (b,v) else p8 w env
 | []=>by simp only [setE,p8]
 | (c,d,x)::r=>by
  rw [setE]
  by_cases h:k=c
  ·subst h
   rw [if_pos (by simp),p8,p8]
   cases w==k <;> rfl
  ·rw [if_neg (by simpa using h),p8,p8,zag w k b v r]
   by_cases h2:w=c
   ·subst h2
    have e1:(w==w)=true:=by simp
    have e2:(w==k)=false:=by simpa using fun e=>h e.symm
    rw [e1,e2];rfl
   ·have e1:(w==c)=false:=by simpa using h2
    rw [e1];cases w==k <;> rfl
def chg (o:Option (Bool×Vv)) (st:Bool) (v:Vv):Bool:=match o with
 | none=>true
 | some (b,x)=> !(b==st&&ybo x v)
def zqw (u:U) (p:En×Bool) (g:Gv):En×Bool:=(setE g.name g.e.set (evE u p.1 g.e) p.1,p.2 || chg (p8 g.name p.1) g.e.set (evE u p.1 g.e))
def zet (u:U) (gs:List Gv) (env:En):En×Bool:=gs.foldl (zqw u) (env,false)
def recN (u:U) (gs:List Gv):Nat→En→En
 | 0,env=>env
 | n+1,env=>if (zet u gs env).2 then recN u gs n (zet u gs env).1 else (zet u gs env).1
def Ends (u:U) (gs:List Gv):Nat→En→Prop
 | 0,_=>False
 | n+1,env=>(zet u gs env).2=false∨((zet u gs env).2=true∧Ends u gs n (zet u gs env).1)
def zg4 (gs:List Gv) (env:En):En:=gs.foldl (fun en g=>setE g.name false v0 en) env
def yhh (u:U) (gs:List Gv) (env:En):En:=gs.foldl (fun en g=>setE g.name g.e.set (evE u env g.e) en) env
def recK (gs:List Gv):Nat:=gs.length*1024+1
def doE (u:U) (env:En):Stm→En
 | .lets false gs=>yhh u gs env
 | .lets true gs=>recN u gs (recK gs) (zg4 gs env)
 | .chk _ _ _=>env
def yf2 (u:U) (env:En) (k:Ck) (x:Ex):Bool:=match k with
 | .acyclic=>zw2 (evE u env x).r
 | .irr=>zu9 (evE u env x).r
 | .empty=>(evE u env x).s==0#32&&zxd (evE u env x).r
def yff (u:U) (env:En):Stm→Bool
 | .lets _ _=>true
 | .chk k x _=>yf2 u env k x
def yab:Stm→Bys
 | .lets _ _=>[]
 | .chk _ _ a=>a
def zin (u:U):En→List Stm→Option Bys
 | _,[]=>none
 | env,s::l=>if yff u env s then zin u (doE u env s) l else some (yab s)
def leR (a b:Nat→U):Prop:=∀i j,i<32→j<32→Bt a i j→Bt b i j
theorem leR.refl (a:Nat→U):leR a a:=fun _ _ _ _ h=>h
theorem leR.trans {a b c:Nat→U} (h:leR a b) (k:leR b c):leR a c:=fun i j hi hj x=>k i j hi hj (h i j hi hj x)
theorem ygn (a:Nat→U):leR (fun _=>0#32) a:=fun i j _ _ h=>by unfold Bt at h;simp at h
theorem zf4 {a b a' b':Nat→U} (h:leR a a') (k:leR b b'):leR (zch [a,b]) (zch [a',b']):=fun i j hi hj x=>by
 rw [ydw] at x ⊢
 obtain ⟨r,hr,hx⟩:=x
 simp only [ypx,List.not_mem_nil,or_false] at hr
 rcases hr with rfl | rfl
 ·exact ⟨a',by simp,h i j hi hj hx⟩
 ·exact ⟨b',by simp,k i j hi hj hx⟩
theorem zyl {a b a' b':Nat→U} (h:leR a a') (k:leR b b'):leR (zi4 [a,b]) (zi4 [a',b']):=fun i j hi hj x=>by
 rw [ygt _ hi hj] at x ⊢
 intro r hr
 simp only [ypx,List.not_mem_nil,or_false] at hr
 rcases hr with rfl | rfl
 ·exact h i j hi hj (x a (by simp))
 ·exact k i j hi hj (x b (by simp))
theorem zst {a b a' b':Nat→U} (h:leR a a') (k:leR b' b):leR (zqb a b) (zqb a' b'):=fun i j hi hj x=>by
 rw [yfb _ _ _ hj] at x ⊢
 exact ⟨h i j hi hj x.1,fun y=>x.2 (k i j hi hj y)⟩
theorem yew {a b a' b':Nat→U} (h:leR a a') (k:leR b b'):leR (seqK [a,b]) (seqK [a',b']):=fun i j hi hj x=>by
 rw [yfy _ _ hi] at x ⊢
 obtain ⟨e,he,x1,x2⟩:=x
 exact ⟨e,he,h i e hi he x1,k e j he hj x2⟩
theorem zms {a a':Nat→U} (h:leR a a'):leR (zim a) (zim a'):=fun i j hi hj x=>
 yah a (fun i j=>i<32→j<32→Bt (zim a') i j) (fun i j x hi hj=>yky a' (h i j hi hj x)) (fun i m j hm x y hi hj=>zz7 a' hm (x hi hm) (y hm hj)) x hi hj
theorem ybw {a a':Nat→U} (h:leR a a'):leR (invR a) (invR a'):=fun i j hi hj x=>by
 rw [yk9 _ _ hj] at x ⊢
 exact h j i hj hi x
def NoR (rc:List Bys):Bool→Ex→Prop
 | rt,.name _ _ w=>rt=true→w∉rc
 | _,.zero _=>True
 | rt,.par _ _ e=>NoR rc rt e
 | rt,.box _ e=>NoR rc rt e
 | rt,.un _ e=>NoR rc rt e
 | rt,.bin _ o l r=>NoR rc rt l∧NoR rc (rt || o== .minus) r
def LeE (rc:List Bys) (env env':En):Prop:=∀w,(p8 w env=none∧p8 w env'=none)∨∃b v v',p8 w env=some (b,v)∧p8 w env'=some (b,v')∧v.s=v'.s∧leR v.r v'.r∧(w∉rc→leR v'.r v.r)
theorem LeE.refl (rc:List Bys) (env:En):LeE rc env env:=fun w=>by
 cases h:p8 w env with
 | none=>exact .inl ⟨rfl,rfl⟩
 | some p=>exact .inr ⟨p.1,p.2,p.2,rfl,rfl,rfl,leR.refl _,fun _=>leR.refl _⟩
theorem LeE.trans {rc:List Bys} {a b c:En} (h:LeE rc a b) (k:LeE rc b c):LeE rc a c:=fun w=>by
 rcases h w with ⟨h1,h2⟩ | ⟨x,v,v',h1,h2,h3,h4,h5⟩
 ·rcases k w with ⟨k1,k2⟩ | ⟨y,u,u',k1,k2,k3,k4,k5⟩
  ·exact .inl ⟨h1,k2⟩
  ·rw [h2] at k1;cases k1
 ·rcases k w with ⟨k1,k2⟩ | ⟨y,u,u',k1,k2,k3,k4,k5⟩
  ·rw [h2] at k1;cases k1
  ·rw [h2] at k1;cases k1
   exact .inr ⟨x,v,u',h1,k2,h3.trans k3,h4.trans k4,fun hw=>(k5 hw).trans (h5 hw)⟩
theorem zh0 (u:U) {rc:List Bys} {env env':En} (L:LeE rc env env'):∀(e:Ex) (rt:Bool),NoR rc rt e→(evE u env e).s=(evE u env' e).s∧leR (evE u env e).r (evE u env' e).r∧(rt=true→leR (evE u env' e).r (evE u env e).r)
 | .name s a w,rt,n=>by
  rcases L w with ⟨h1,h2⟩ | ⟨x,v,v',h1,h2,h3,h4,h5⟩
  ·simp only [evE,h1,h2];exact ⟨trivial,leR.refl _,fun _=>leR.refl _⟩
  ·simp only [evE,h1,h2,yp6,Option.getD_some];exact ⟨h3,h4,fun h=>h5 (n h)⟩
 | .zero a,rt,n=>⟨rfl,leR.refl _,fun _=>leR.refl _⟩
 | .par s a e,rt,n=>zh0 u L e rt n
 | .box a e,rt,n=>by
  obtain ⟨h1,h2,h3⟩:=zh0 u L e rt n
  simp only [evE,h1];exact ⟨trivial,leR.refl _,fun _=>leR.refl _⟩
 | .un o e,rt,n=>by
  obtain ⟨h1,h2,h3⟩:=zh0 u L e rt n
  cases o <;> simp only [evE,evU]
  ·exact ⟨trivial,zms h2,fun h=>zms (h3 h)⟩
  ·exact ⟨trivial,zf4 (zms h2) (leR.refl _),fun h=>zf4 (zms (h3 h)) (leR.refl _)⟩
  ·exact ⟨trivial,zf4 h2 (leR.refl _),fun h=>zf4 (h3 h) (leR.refl _)⟩
  ·exact ⟨trivial,ybw h2,fun h=>ybw (h3 h)⟩
 | .bin s o l r,rt,n=>by
  obtain ⟨h1,h2,h3⟩:=zh0 u L l rt n.1
  obtain ⟨k1,k2,k3⟩:=zh0 u L r _ n.2
  cases o <;> simp only [evE,evB,h1,k1]
  ·exact ⟨trivial,zf4 h2 k2,fun h=>zf4 (h3 h) (k3 (by simp [h]))⟩
  ·exact ⟨trivial,zyl h2 k2,fun h=>zyl (h3 h) (k3 (by simp [h]))⟩
  ·exact ⟨trivial,zst h2 (k3 (by simp)),fun h=>zst (h3 h) k2⟩
  ·exact ⟨trivial,yew h2 k2,fun h=>yew (h3 h) (k3 (by simp [h]))⟩
  ·exact ⟨trivial,leR.refl _,fun _=>leR.refl _⟩
def KdOk (kn:Kn) (env:En):Prop:=∀w,(p8 w env).map (·.1)=wn kn w
theorem zus {kn:Kn} {env:En} (k:KdOk kn env):∀{e:Ex},Typ kn e→kdE env e=e.set
 | .name s a w,t=>by
  have:=k w
  rw [kdE]
  rw [show wn kn w=some s from t] at this
  rw [this];rfl
 | .zero a,t=>rfl
 | .par s a e,t=>by rw [kdE,zus k t.2];exact t.1.symm
 | .box a e,t=>rfl
 | .un o e,t=>rfl
 | .bin s o l r,t=>rfl
def S0 (env:En):Prop:=∀w v,p8 w env=some (false,v)→v.s=0#32
theorem zsq {u:U} {kn:Kn} {env:En} (k:KdOk kn env) (z:S0 env):∀{e:Ex},Typ kn e→e.set=false→(evE u env e).s=0#32
 | .name s a w,t,h=>by
  have kw:=k w
  rw [show wn kn w=some s from t] at kw
  rw [evE]
  cases hl:p8 w env with
  | none=>rfl
  | some p=>
   obtain ⟨b,v⟩:=p
   rw [hl] at kw
   have:b=s:=by simpa using kw
   have hs:s=false:=h
   subst this hs
   exact z w v hl
 | .zero a,t,h=>rfl
 | .par s a e,t,h=>by rw [evE];exact zsq k z t.2 (t.1.symm.trans h)
 | .box a e,t,h=>rfl
 | .un o e,t,h=>by cases o <;> rfl
 | .bin s o l r,t,h=>by
  have hs:s=false:=h
  obtain ⟨tl,tr,t⟩:=t
  cases o
  case seq=>rfl
  case cross=>rfl
  all_goals
   simp only at t
   have hl:=zsq (u:=u) k z tl (t.1.symm.trans hs)
   have hr:=zsq (u:=u) k z tr (t.2.trans (t.1.symm.trans hs))
   simp only [evE,evB,hl,hr]
   rfl
theorem zh6 {kn:Kn} {rc:List Bys}:∀{e e':Ex} {rt:Bool},chkE kn rc rt e=.ok e'→NoR rc rt e'
 | .name s a w,e',rt,h=>by
  rw [chkE] at h
  split at h
  ·cases h
  ·split at h
   ·cases h
   ·rename_i hc
    cases h
    intro hrt hw
    exact hc (by simp [hrt,hw])
 | .zero a,e',rt,h=>by rw [chkE] at h;cases h;trivial
 | .par s a e,e',rt,h=>by
  rw [chkE] at h
  split at h
  ·cases h
  ·rename_i x hx
   cases h;exact zh6 (e':=x) hx
 | .box a e,e',rt,h=>by
  rw [chkE] at h
  split at h
  ·cases h
  ·rename_i x hx
   split at h
   ·cases h;exact zh6 (e':=x) hx
   ·cases h
 | .un o e,e',rt,h=>by
  rw [chkE] at h
  split at h
  ·cases h
  ·rename_i x hx
   split at h
   ·cases h
   ·cases h;exact zh6 (e':=x) hx
 | .bin s o l r,e',rt,h=>by
  rw [chkE] at h
  cases hl:chkE kn rc rt l with
  | bad c a=>rw [hl] at h;cases h
  | ok l'=>
   rw [hl] at h
   simp only at h
   cases hr:chkE kn rc (rt || o== .minus) r with
   | bad c a=>rw [hr] at h;cases h
   | ok r'=>
    rw [hr] at h
    have tl:=zh6 hl
    have tr:=zh6 hr
    cases o <;> simp only at h <;> split at h <;> first | cases h;done | skip
    all_goals first | (cases h;exact ⟨tl,tr⟩) | (split at h <;> first | (cases h;done) | (cases h;exact ⟨tl,tr⟩))
theorem zm0 {α:Type} {p q:α→Bool}:∀{l:List α},(∀x∈l,p x=true→q x=true)→(l.filter p).length≤(l.filter q).length
 | [],_=>yoz _
 | x::l,h=>by
  have ih:=zm0 (l:=l) fun y hy=>h y (by simp [hy])
  have h0:=h x (by simp)
  rw [List.filter_cons,List.filter_cons]
  cases hp:p x
  ·cases q x <;> simp <;> omega
  ·rw [h0 hp];simp;exact ih
theorem zsf {α:Type} {p q:α→Bool}:∀{l:List α},(∀x∈l,p x=true→q x=true)→(∃x∈l,q x=true∧p x=false)→(l.filter p).length<(l.filter q).length
 | [],_,e=>by obtain ⟨x,hx,_⟩:=e;cases hx
 | x::l,h,e=>by
  have hl:∀y∈l,p y=true→q y=true:=fun y hy=>h y (by simp [hy])
  have h0:=h x (by simp)
  rw [List.filter_cons,List.filter_cons]
  obtain ⟨y,hy,hq,hp⟩:=e
  rcases ypx.1 hy with rfl | hy
  ·rw [hq,hp]
   have:=zm0 hl
   simp;omega
  ·have ih:=zsf hl ⟨y,hy,hq,hp⟩
   cases hp:p x
   ·cases q x <;> simp <;> omega
   ·rw [h0 hp];simp;exact ih
def cntR (r:Nat→U):Nat:=((List.range 1024).filter fun k=>(r (k / 32)).getLsbD (k % 32)).length
theorem ylb (r:Nat→U):cntR r≤1024:=by
 have:=List.length_filter_le (fun k=>(r (k / 32)).getLsbD (k % 32)) (List.range 1024)
 rwa [List.length_range] at this
theorem ydh {a b:Nat→U} (h:leR a b):cntR a≤cntR b:=zm0 fun k hk x=>h _ _ (by have:=List.mem_range.1 hk;omega) (Nat.mod_lt _ (by decide)) x
theorem ykv {a b:Nat→U} (h:leR a b) (n:zrt a b=false):cntR a<cntR b:=by
 refine zsf (fun k hk x=>h _ _ (by have:=List.mem_range.1 hk;omega) (Nat.mod_lt _ (by decide)) x) ?_
 apply Classical.byContradiction
 intro hn
 have:zrt a b=true:=yj5 fun i j hi hj=>⟨h i j hi hj,fun hb=>by
  apply Classical.byContradiction
  intro ha
  refine hn ⟨i*32+j,List.mem_range.2 (by omega),?_,?_⟩
  ·rw [show (i*32+j)/ 32=i by omega,show (i*32+j)% 32=j by omega];exact hb
  ·rw [show (i*32+j)/ 32=i by omega,show (i*32+j)% 32=j by omega];simpa using ha⟩
 rw [this] at n;cases n
def cntE (env:En) (w:Bys):Nat:=match p8 w env with
 | some (_,v)=>cntR v.r
 | none=>0
theorem ykm (env:En) (w:Bys):cntE env w≤1024:=by
 unfold cntE;split
 ·exact ylb _
 ·exact Nat.zero_le _
theorem zsx {rc:List Bys} {env env':En} (L:LeE rc env env') (w:Bys):cntE env w≤cntE env' w:=by
 unfold cntE
 rcases L w with ⟨h1,h2⟩ | ⟨b,v,v',h1,h2,h3,h4,h5⟩
 ·rw [h1,h2];exact yoz _
 ·rw [h1,h2];exact ydh h4
def sumE (env:En) (gs:List Gv):Nat:=(gs.map fun g=>cntE env g.name).sum
theorem yas (env:En):∀gs:List Gv,sumE env gs≤gs.length*1024
 | []=>yoz _
 | g::gs=>by
  have:=yas env gs
  have h:=ykm env g.name
  unfold sumE at this ⊢
  simp only [ypr,List.sum_cons,ypb];omega
theorem zj8 {rc:List Bys} {env env':En} (L:LeE rc env env'):∀gs:List Gv,sumE env gs≤sumE env' gs
 | []=>yoz _
 | g::gs=>by
  have:=zj8 L gs
  have h:=zsx L g.name
  unfold sumE at this ⊢
  simp only [ypr,List.sum_cons];omega
theorem yfk {rc:List Bys} {env env':En} (L:LeE rc env env'):∀{gs:List Gv} {g:Gv},g∈gs→cntE env g.name<cntE env' g.name→sumE env gs<sumE env' gs
 | x::gs,g,hg,h=>by
  have m:=zj8 L gs
  have hx:=zsx L x.name
  rcases ypx.1 hg with rfl | hg
  ·unfold sumE at m ⊢
   simp only [ypr,List.sum_cons];omega
  ·have:=yfk L hg h
   unfold sumE at this ⊢
   simp only [ypr,List.sum_cons];omega
structure RecG (kn:Kn) (rc:List Bys) (gs:List Gv):Prop where
 ty:∀g∈gs,Typ kn g.e
 st:∀g∈gs,g.e.set=false
 nr:∀g∈gs,NoR rc false g.e
 mem:∀g∈gs,g.name∈rc
 inj:∀g∈gs,∀g'∈gs,g.name=g'.name→g=g'
structure RecI (u:U) (kn:Kn) (gs:List Gv) (env:En):Prop where
 kd:KdOk kn env
 z:S0 env
 at_:∀g∈gs,∃v,p8 g.name env=some (false,v)∧leR v.r (evE u env g.e).r
theorem ygb {u:U} {kn:Kn} {rc:List Bys} {gs:List Gv} (G:RecG kn rc gs) {env:En} (I:RecI u kn gs env) {g:Gv} (hg:g∈gs):
  RecI u kn gs (setE g.name g.e.set (evE u env g.e) env)∧LeE rc env (setE g.name g.e.set (evE u env g.e) env)∧(chg (p8 g.name env) g.e.set (evE u env g.e)=true→sumE env gs<sumE (setE g.name g.e.set (evE u env g.e) env) gs):=by
 rw [G.st g hg]
 obtain ⟨v,hv,hle⟩:=I.at_ g hg
 have s0:(evE u env g.e).s=0#32:=zsq I.kd I.z (G.ty g hg) (G.st g hg)
 have v0:v.s=0#32:=I.z _ _ hv
 have L:LeE rc env (setE g.name false (evE u env g.e) env):=fun w=>by
  rw [zag]
  by_cases hw:w=g.name
  ·subst hw
   rw [if_pos (by simp)]
   exact .inr ⟨false,v,_,hv,rfl,v0.trans s0.symm,hle,fun h=>absurd (G.mem g hg) h⟩
  ·rw [if_neg (by simpa using hw)]
   cases h:p8 w env with
   | none=>exact .inl ⟨rfl,rfl⟩
   | some p=>exact .inr ⟨p.1,p.2,p.2,rfl,rfl,rfl,leR.refl _,fun _=>leR.refl _⟩
 refine ⟨⟨fun w=> ?_,fun w x h=> ?_,fun k hk=> ?_⟩,L,fun hc=> ?_⟩
 ·rw [zag]
  by_cases hw:w=g.name
  ·subst hw
   rw [if_pos (by simp),←I.kd,hv];rfl
  ·rw [if_neg (by simpa using hw)];exact I.kd w
 ·rw [zag] at h
  by_cases hw:w=g.name
  ·subst hw
   rw [if_pos (by simp)] at h
   cases h;exact s0
  ·rw [if_neg (by simpa using hw)] at h;exact I.z w x h
 ·obtain ⟨m1,m2,m3⟩:=zh0 u L k.e false (G.nr k hk)
  rw [zag]
  by_cases hw:k.name=g.name
  ·have:=G.inj k hk g hg hw
   subst this
   rw [if_pos (by simp)]
   exact ⟨_,rfl,m2⟩
  ·rw [if_neg (by simpa using hw)]
   obtain ⟨x,hx,hl⟩:=I.at_ k hk
   exact ⟨x,hx,hl.trans m2⟩
 ·refine yfk L hg ?_
  unfold cntE
  rw [zag,if_pos (by simp),hv]
  simp only
  refine ykv hle ?_
  rw [hv] at hc
  simp only [chg,ybo,v0,s0] at hc
  simpa using hc
theorem zj3 {u:U} {kn:Kn} {rc:List Bys} {gs:List Gv} (G:RecG kn rc gs):∀(l:List Gv) (p:En×Bool),(∀g∈l,g∈gs)→RecI u kn gs p.1→
  RecI u kn gs (l.foldl (zqw u) p).1∧LeE rc p.1 (l.foldl (zqw u) p).1∧(p.2=false→(l.foldl (zqw u) p).2=true→sumE p.1 gs<sumE (l.foldl (zqw u) p).1 gs)
 | [],p,_,I=>⟨I,LeE.refl _ _,fun h h2=>by rw [List.foldl_nil,h] at h2;cases h2⟩
 | g::l,p,hl,I=>by
  obtain ⟨I1,L1,c1⟩:=ygb G I (hl g (by simp))
  obtain ⟨I2,L2,c2⟩:=zj3 G l (zqw u p g) (fun k hk=>hl k (by simp [hk])) I1
  rw [List.foldl_cons]
  refine ⟨I2,L1.trans L2,fun h h2=> ?_⟩
  cases hc:chg (p8 g.name p.1) g.e.set (evE u p.1 g.e)
  ·have:=c2 (by simp [zqw,h,hc]) h2
   exact Nat.lt_of_le_of_lt (zj8 L1 gs) this
  ·exact Nat.lt_of_lt_of_le (c1 hc) (zj8 L2 gs)
theorem zw1 {u:U} {kn:Kn} {rc:List Bys} {gs:List Gv} (G:RecG kn rc gs):∀(n:Nat) (env:En),RecI u kn gs env→gs.length*1024<sumE env gs+n→Ends u gs n env
 | 0,env,I,h=>by have:=yas env gs;omega
 | n+1,env,I,h=>by
  obtain ⟨I2,L2,c2⟩:=zj3 G gs (env,false) (fun g hg=>hg) I
  rw [Ends]
  cases hc:(zet u gs env).2
  ·exact .inl rfl
  ·refine .inr ⟨rfl,zw1 G n _ I2 ?_⟩
   have:=c2 rfl hc
   show _<sumE (zet u gs env).1 gs+n
   unfold zet at*
   simp only at this
   omega
theorem ybl {u:U} {kn:Kn} {rc:List Bys} {gs:List Gv} (G:RecG kn rc gs):∀(n:Nat) (env:En),RecI u kn gs env→RecI u kn gs (recN u gs n env)∧LeE rc env (recN u gs n env)
 | 0,env,I=>⟨I,LeE.refl _ _⟩
 | n+1,env,I=>by
  obtain ⟨I2,L2,c2⟩:=zj3 G gs (env,false) (fun g hg=>hg) I
  rw [recN]
  split
  ·obtain ⟨I3,L3⟩:=ybl G n (zet u gs env).1 I2
   exact ⟨I3,LeE.trans L2 L3⟩
  ·exact ⟨I2,L2⟩
theorem ygh {u:U} {kn kn':Kn} {gs:List Gv} {env:En} (k:KdOk kn env) (z:S0 env) (hk:∀w,wn kn' w=if gs.any (fun g=>w==g.name) then some false else wn kn w):RecI u kn' gs (zg4 gs env):=by
 have key:∀(l:List Gv) (en:En) (w:Bys),p8 w (l.foldl (fun en g=>setE g.name false v0 en) en)=if l.any (fun g=>w==g.name) then some (false,v0) else p8 w en:=by
  intro l
  induction l with
  | nil=>intro en w;rfl
  | cons g l ih=>
   intro en w
   rw [List.foldl_cons,ih,zag,List.any_cons]
   cases h1:w==g.name <;> cases h2:l.any (fun g=>w==g.name)<;> simp
 refine ⟨fun w=> ?_,fun w v h=> ?_,fun g hg=>⟨v0,?_,ygn _⟩⟩
 ·rw [zg4,key,hk]
  split
  ·rfl
  ·exact k w
 ·rw [zg4,key] at h
  split at h
  ·cases h;rfl
  ·exact z w v h
 ·rw [zg4,key,if_pos]
  exact List.any_eq_true.2 ⟨g,hg,by simp⟩
/-- Rows stay. -/
structure KC (km:Nat) (h h':Heap):Prop where
 keep:∀(b:Nat) (l:List Value) (n:Nat) (ro:Bool),h[b]?=some (AObj.cells l n ro)→h'[b]?=some (AObj.cells l n ro)
 oth:∀(b:Nat) (o:AObj),h[b]?=some o→b≠km→h'[b]?=some o
 le:h.length≤h'.length
theorem KC.refl {km:Nat} (h:Heap):KC km h h:=⟨fun _ _ _ _ e=>e,fun _ _ e _=>e,yoz _⟩
theorem KC.trans {km:Nat} {a b c:Heap} (h:KC km a b) (k:KC km b c):KC km a c:=⟨fun i l n ro e=>k.keep i l n ro (h.keep i l n ro e),fun i o e n=>k.oth i o (h.oth i o e n) n,yqf h.le k.le⟩
theorem KC.more {km:Nat} (h L:Heap):KC km h (h++L):=⟨fun _ _ _ _ e=>zm L e,fun _ _ e _=>zm L e,by simp⟩
theorem KC.map {h:Heap} {km:Nat} {es:List (Value×Value)} (e:h[km]?=some (.map es)) (es':List (Value×Value)):KC km h (h.set km (.map es')):=⟨fun b l n ro hb=>by
 rw [you (by rintro rfl;rw [e] at hb;cases hb)];exact hb,fun b o hb n=>by rw [you (yps n)];exact hb,by simp⟩
theorem KC.fin {km:Nat} {h H:Heap} (k:KC km h H) (v:Value):KC km h (AM.finish h v H):=by
 rcases j5 h H v with hf | ⟨hf,hk⟩
 ·rw [hf];exact k
 ·rw [hf];exact KC.refl h
theorem ycv {h H:Heap} {b:Nat} {o:AObj} (v:Value) (hb:b<h.length) (e:H[b]?=some o):(AM.finish h v H)[b]?=some o:=by
 rcases j5 h H v with hf | ⟨hf,hk⟩
 ·rw [hf];exact e
 ·rw [hf,←hk,yp0,if_pos hb];exact e
theorem zfd {h:Heap} {b:Nat} {o:AObj} (e:h[b]?=some o):b<h.length:=(yoq.1 e).1
theorem Wd.fin {h H:Heap} {q km:Nat} {u:U} {env env0:En} (W0:Wd h q km u env0) (W:Wd H q km u env) (v:Value):Wd (AM.finish h v H) q km u env:=
 ⟨ycv v (zfd W0.hq) W.hq,ycv v (zfd W0.hk) W.hk⟩
theorem Wd.ne {h:Heap} {q km:Nat} {u:U} {env:En} (W:Wd h q km u env):q≠km:=by
 rintro rfl;have:=W.hq.symm.trans W.hk;simp at this
theorem Wd.set {h:Heap} {q km:Nat} {u:U} {env:En} (W:Wd h q km u env) (env':En):Wd (h.set km (.map (enE env'))) q km u env':=
 ⟨by rw [you (yps W.ne)];exact W.hq,by rw [yox (zfd W.hk)]⟩
theorem yke {km:Nat} {h h':Heap} (k:KC km h h') {p:Addr} {n:Nat} {l:List Value} (e:h.read p n=some l):h'.read p n=some l:=by
 unfold Heap.read at e ⊢
 cases hb:h[p.block]? with
 | none=>rw [hb] at e;cases e
 | some o=>
  cases o with
  | cells c m ro=>rw [k.keep _ _ _ _ hb];rw [hb] at e;exact e
  | map es=>rw [hb] at e;cases e
  | gone=>rw [hb] at e;cases e
theorem Sl.kc {km:Nat} {h h':Heap} {s:Value} {c:Nat} {rows:List (List Value)} (e:Sl h s c rows) (k:KC km h h'):Sl h' s c rows:=by
 obtain ⟨hs | ⟨b,o,v,hs,hr⟩,hc⟩:=e
 ·exact ⟨.inl hs,hc⟩
 ·exact ⟨.inr ⟨b,o,v,hs,yke k hr⟩,hc⟩
theorem TreeP.kc {km:Nat} {h h':Heap} (k:KC km h h'):∀{S:Nat→Prop} {v:Value} {e:Ex},TreeP h S v e→TreeP h' S v e
 | S,v,.name s a w,t=>by obtain ⟨b,hv,hb,ho⟩:=t;exact ⟨b,hv,hb,k.keep _ _ _ _ ho⟩
 | S,v,.zero a,t=>by obtain ⟨b,hv,hb,ho⟩:=t;exact ⟨b,hv,hb,k.keep _ _ _ _ ho⟩
 | S,v,.par s a e,t=>by obtain ⟨b,S',x,hv,hb,ho,t',hs⟩:=t;exact ⟨b,S',x,hv,hb,k.keep _ _ _ _ ho,t'.kc k,hs⟩
 | S,v,.box a e,t=>by obtain ⟨b,S',x,hv,hb,ho,t',hs⟩:=t;exact ⟨b,S',x,hv,hb,k.keep _ _ _ _ ho,t'.kc k,hs⟩
 | S,v,.un o' e,t=>by obtain ⟨b,S',x,hv,hb,ho,t',hs⟩:=t;exact ⟨b,S',x,hv,hb,k.keep _ _ _ _ ho,t'.kc k,hs⟩
 | S,v,.bin s o' l r,t=>by obtain ⟨b,S1,S2,x,y,hv,hb,ho,t1,t2,h1,h2⟩:=t;exact ⟨b,S1,S2,x,y,hv,hb,k.keep _ _ _ _ ho,t1.kc k,t2.kc k,h1,h2⟩
theorem yje (h:Heap) (neg:Bool) (n1 n2:Bys) (s1 s2:Bool) (v1 v2:Vv):zl5 h neg (.str:: .bool::List.replicate 33 .int) (agg (wo n1 s1 v1)) (agg (wo n2 s2 v2))=some (.bool ((n1==n2&&(s1==s2&&ybo v1 v2)) !=neg),h):=yni h neg n1 n2 s1 s2 v1 v2
set_option maxHeartbeats 4000000 in
theorem ydk {h:Heap} {q km:Nat} {u:U} {env:En} (W:Wd h q km u env) (w nm:Bys) (st:Bool) (v:Vv):
  ∃c h',DF FF jc [pt q,str w,agg (wo nm st v)] h=some (.bool c,h')∧Wd h' q km u (setE w st v env)∧KC km h h'∧∀p,p8 w env=some p→c=chg (some p) st v:=by
 have:∃x h',DF FF jc [pt q,str w,agg (wo nm st v)] h=some (x,h')∧∃c,x=.bool c∧Wd h' q km u (setE w st v env)∧KC km h h'∧∀p,p8 w env=some p→c=chg (some p) st v:=by
  refine yb zmh ?_
  have rq:∀L j,Heap.read1 (h++L) ⟨q,j,some 0⟩=([.int .u32 (u.toNat:Int),.map (some km)]:List Value)[j]?:=fun L j=>zr (W.more L).hq
  have lk:∀L,zqo (h++L) .str (agg (wo [] false v0)) false (.map (some km)) (str w)=_:=fun L=>zi2 _ (W.more L).hk (agg (wo [] false v0)) false (w:=w) (yd1 env w)
  have up:∀L,updO (h++L) .str (.map (some km)) (str w) (agg (wo w st v))=some (undef,(h++L).set km (.map (enE (setE w st v env)))):=fun L=>zqd _ (W.more L).hk (yi3 w st v env)
  have fin:∀L x,Wd (AM.finish h x ((h++L).set km (.map (enE (setE w st v env))))) q km u (setE w st v env)∧KC km h (AM.finish h x ((h++L).set km (.map (enE (setE w st v env))))):=fun L x=>
   ⟨W.fin ((W.more L).set _) x,((KC.more h L).trans (KC.map (W.more L).hk _)).fin x⟩
  cases hl:p8 w env with
  | none=>
   simp only [hl,Option.map_none,zld,yoy,if_false] at lk
   simp only [zcz,zb,yor,yos,zy,yo4,Bool.false_beq,zg,ze,zqy,zf,z6,zai,fh,zk8,rq,fo,lk,b8,up,yje,pkA,pkB]
   exact ⟨_,rfl,(fin _ _).1,(fin _ _).2,fun p h=>by cases h⟩
  | some p=>
   simp only [hl,yp6,zld,yoy,if_false] at lk
   simp only [zcz,zb,yor,yos,zy,yo4,zg,ze,zqy,zf,z6,zai,fh,zk8,rq,fo,lk,b8,up,yje,pkA,pkB]
   exact ⟨_,rfl,(fin _ _).1,(fin _ _).2,fun p' h=>by cases h;simp [chg]⟩
 obtain ⟨x,h',hq,c,rfl,hw,hk,hc⟩:=this
 exact ⟨c,h',hq,hw,hk,hc⟩
/-! A statement's words. -/
theorem ylw:(([114,101,99]:Bys)==[108,101,116])=false:=by decide
theorem ymp:(([97,99,121,99,108,105,99]:Bys)==[108,101,116])=false:=by decide
theorem ymz:(([97,99,121,99,108,105,99]:Bys)==[114,101,99])=false:=by decide
theorem ylo:(([105,114,114,101,102,108,101,120,105,118,101]:Bys)==[108,101,116])=false:=by decide
theorem ymu:(([105,114,114,101,102,108,101,120,105,118,101]:Bys)==[114,101,99])=false:=by decide
theorem ynb:(([105,114,114,101,102,108,101,120,105,118,101]:Bys)==[97,99,121,99,108,105,99])=false:=by decide
theorem yjk:(([101,109,112,116,121]:Bys)==[108,101,116])=false:=by decide
theorem yi0:(([101,109,112,116,121]:Bys)==[114,101,99])=false:=by decide
theorem yjc:(([101,109,112,116,121]:Bys)==[97,99,121,99,108,105,99])=false:=by decide
theorem yi8:(([101,109,112,116,121]:Bys)==[105,114,114,101,102,108,101,120,105,118,101])=false:=by decide
theorem zzk {h:Heap} {p:Addr} {w:Bys} (hr:h.read1 p=some (str w)):zbd h (.pointer (some p)) (str w)=some (undef,h):=fu hr rfl
theorem zxm (h:Heap) (nm:Bys) (st:Bool) (v:Vv):zxx h 32 3 (agg (wo nm st v))=some (agg (relV v.r),h):=by
 rw [ydn h (by rw [fh];decide),ycb]
theorem ybj (n:Bys) (b:Bool) (v:Vv):yp (wo [] false v0) [(0,35,agg (wo n b v))]=some (wo n b v):=by
 have:=zob (fh [] false v0) (fh n b v)
 simpa [p7] using this
set_option maxHeartbeats 8000000 in
theorem yhx {h:Heap} {q km:Nat} {u:U} {env:En} {S:Nat→Prop} {v:Value} {x:Ex} (W:Wd h q km u env) (t:TreeP h S v x) (k:Ck) (as_:Bys):
  DF FF qa [pt q,agg [str (ckS k),nils,v,str as_]] h=some (.bool (yf2 u env k x),h):=by
 refine ye zc3 ?_
 obtain ⟨b,_,_,_,_,rfl,_,_⟩:=t.root
 have q1:=fun L=>zhl u env x (h++L) q km S (pt b) (W.more L) (t.keep fun _ _ _ ho=>zm L ho)
 cases k
 ·simp only [j8,zb,yor,yos,zg,ze,zf,yf,zai,ckS,bd,ymp,ymz,zg,q1,zxm,zq0,pkA,pkB]
  rw [zhk _ _ _ _ _ rfl]
  rfl
 ·simp only [j8,zb,yor,yos,zg,ze,zf,yf,zai,ckS,wIrr,ylo,ymu,ynb,zg,q1,zxm,zfs,pkA,pkB]
  rw [zhk _ _ _ _ _ rfl]
  rfl
 ·cases hs:(evE u env x).s==0#32
  ·simp only [j8,zi,zb,yor,yos,zg,ze,zf,yf,zai,fh,bd_2,ckS,zcx,yjk,yi0,yjc,yi8,zg,q1,yma,hs,pkA,pkB]
   rw [zhk _ _ _ _ _ rfl]
   simp only [yf2,hs]
   rfl
  ·simp only [j8,zi,zb,yor,yos,zg,ze,zf,yf,zai,fh,bd_2,yjl,ckS,zcx,yjk,yi0,yjc,yi8,zg,q1,zn6,yma,hs,pkA,pkB]
   rw [zhk _ _ _ _ _ rfl]
   simp only [yf2,hs]
   rfl
def vrow (u:U) (env:En) (g:Gv):List Value:=wo (nmE env g.e) (kdE env g.e) (evE u env g.e)
structure VlS (h0:Heap) (q km:Nat) (u:U) (env:En) (gs:List Gv) (k:Nat) (sv:Value) (K:Heap):Prop where
 w:Wd K q km u env
 kc:KC km h0 K
 own:Own [] K sv 35 ((gs.take k).map (vrow u env))
 b:∀b,blk sv=some b→h0.length≤b
theorem yd4 {km:Nat} {h K:Heap} {s:Value} {S:Nat→Prop} {gs:List Gv} {vs:List Value} (hs:Sl h s 3 (List.zipWith wv gs vs)) (G:GsP h S vs gs) (kc:KC km h K) {k:Nat} {g:Gv} (hg:gs[k]?=some g):
  ∃b S' b' o v,(∀H',rowO H' 3 s (.int .i64 (k:Int))=some (.pointer (some ⟨b',o,some v⟩),H'))∧Heap.read K ⟨b',o,some v⟩ 3=some (wv g (pt b))∧TreeP K S' (pt b) g.e:=by
 obtain ⟨x,S',hx,t,_⟩:=G.get k g hg
 obtain ⟨b,_,_,_,_,rfl,_,_⟩:=t.root
 have hk:=(yoq.1 hg).1
 obtain ⟨b',o,v,a1,a2⟩:=(hs.kc kc).atH (k:=k) (by rw [zgy G.len];exact hk)
 refine ⟨b,S',b',o,v,a1,?_,t.kc kc⟩
 rw [a2]
 have:=yfl G.len hg hx
 rw [yow (by rw [zgy G.len];exact hk)] at this
 exact this
theorem zxf {α β:Type} {l:List α} {k:Nat} {x:α} (h:l[k]?=some x) (f:α→β):(l.take (k+1)).map f=(l.take k).map f++[f x]:=by
 rw [List.take_add_one,h];simp
theorem zbo {α β:Type} {l:List α} {k:Nat} {x:α} (h:l[k]?=some x) (f:β→α→β) (a:β):(l.take (k+1)).foldl f a=f ((l.take k).foldl f a) x:=by
 rw [List.take_add_one,h,List.foldl_append];rfl
theorem ykg {h0 K:Heap} {q km:Nat} {u:U} {env:En} {gs:List Gv} {k:Nat} {sv:Value} (W0:Wd h0 q km u env) (e:VlS h0 q km u env gs k sv K) {g:Gv} (hg:gs[k]?=some g) (hl:gs.length≤8192) {b:Nat} {S':Nat→Prop} (t:TreeP K S' (pt b) g.e):
  DF FF x9 [pt q,pt b] (K++[.cells (wv g (pt b)) 0 false])=some (agg (wo (nmE env g.e) (kdE env g.e) (evE u env g.e)),K++[.cells (wv g (pt b)) 0 false])∧
  ∃s' K2,wu (K++[.cells (wv g (pt b)) 0 false,.cells (wo (nmE env g.e) (kdE env g.e) (evE u env g.e)) 0 false]) 35 152 sv (za5 (K++[.cells (wv g (pt b)) 0 false,.cells (wo (nmE env g.e) (kdE env g.e) (evE u env g.e)) 0 false]) 35 (.slice (some ⟨K.length+1,0,some 0⟩) 1 35))=some (s',K2)∧
   VlS h0 q km u env gs (k+1) s' K2:=by
 refine ⟨zhl u env g.e _ q km S' (pt b) (e.w.more _) (t.keep fun _ _ _ ho=>zm _ ho),?_⟩
 have hk:=(yoq.1 hg).1
 have hlen:((gs.take k).map (vrow u env)).length=k:=by simp;omega
 obtain ⟨s',K2,p1,p2,_,p4,p5,p6⟩:=(e.own.more [.cells (wv g (pt b)) 0 false]).push (⟨_,rfl⟩:Pre [] (K++[.cells (wv g (pt b)) 0 false])) (row:=vrow u env g) (bytes:=152) (fh _ _ _) (by rw [hlen];unfold wy;omega)
 have p1':=p1
 rw [yp4,yo8] at p1'
 have nb:∀z o,h0[z]?=some o→blk sv≠some z:=fun z o ho hz=>by have:=e.b z hz;have:=zfd ho;omega
 refine ⟨s',K2,p1',⟨p5 _ _ (zm _ e.w.hq) (nb _ _ W0.hq),p5 _ _ (zm _ e.w.hk) (nb _ _ W0.hk)⟩,⟨fun z l n ro ho=>p5 _ _ (zm _ (e.kc.keep _ _ _ _ ho)) (nb _ _ ho),fun z o ho n=>p5 _ _ (zm _ (e.kc.oth _ _ ho n)) (nb _ _ ho),by have:=e.kc.le;simp at p4;omega⟩,by rw [zxf hg];exact p2,fun z hz=> ?_⟩
 rcases p6 with h | ⟨j,h,h'⟩
 ·rw [h] at hz;exact e.b z hz
 ·rw [h] at hz;cases hz;have:=e.kc.le;simp at h';omega
def VlI (h h0:Heap) (q km:Nat) (u:U) (env:En) (gs:List Gv) (s:Value) (k:Nat) (st:St):Prop:=∃K sv,(∃j:Nat→Value,st=⟨[pt q,j 1,j 2,pt h.length,j 4,sv,j 6,j 7,j 8,j 9,j 10,j 11,j 12,j 13,j 14,j 15,j 16,j 17,j 18,j 19,j 20,s,.int .i64 (gs.length:Int),.int .i64 (k:Int),j 24,j 25,j 26,j 27,j 28,j 29,j 30,j 31,j 32,j 33,j 34,j 35,j 36,j 37,j 38,j 39,j 40,j 41,j 42,j 43,j 44,j 45,j 46,j 47,j 48,j 49,j 50,j 51,j 52,j 53,j 54,j 55,j 56,j 57,j 58,j 59,j 60,j 61,j 62,j 63,j 64,j 65,j 66,j 67,j 68,j 69,j 70,j 71,j 72,j 73,j 74,j 75,j 76,j 77,j 78,j 79,j 80,j 81,j 82,j 83,j 84,j 85,j 86,j 87,j 88,j 89,j 90,j 91,j 92,j 93,j 94,j 95,j 96,j 97,j 98,j 99,j 100,j 101,j 102,j 103,j 104,j 105,j 106,j 107,j 108,j 109,j 110,j 111,j 112,j 113,j 114,j 115,j 116],K⟩)∧VlS h0 q km u env gs k sv K
def VlO (h h0:Heap) (q km:Nat) (u:U) (env:En) (gs:List Gv) (st:St):Prop:=∃K sv,(∃j:Nat→Value,st=⟨[pt q,j 1,j 2,pt h.length,j 4,sv,j 6,j 7,j 8,j 9,j 10,j 11,j 12,j 13,j 14,j 15,j 16,j 17,j 18,j 19,j 20,j 21,j 22,j 23,j 24,j 25,j 26,j 27,j 28,j 29,j 30,j 31,j 32,j 33,j 34,j 35,j 36,j 37,j 38,j 39,j 40,j 41,j 42,j 43,j 44,j 45,j 46,j 47,j 48,j 49,j 50,j 51,j 52,j 53,j 54,j 55,j 56,j 57,j 58,j 59,j 60,j 61,j 62,j 63,j 64,j 65,j 66,j 67,j 68,j 69,j 70,j 71,j 72,j 73,j 74,j 75,j 76,j 77,j 78,j 79,j 80,j 81,j 82,j 83,j 84,j 85,j 86,j 87,j 88,j 89,j 90,j 91,j 92,j 93,j 94,j 95,j 96,j 97,j 98,j 99,j 100,j 101,j 102,j 103,j 104,j 105,j 106,j 107,j 108,j 109,j 110,j 111,j 112,j 113,j 114,j 115,j 116],K⟩)∧VlS h0 q km u env gs gs.length sv K
structure GvS (h0:Heap) (q km:Nat) (u:U) (env env':En) (gs:List Gv) (sv:Value) (K:Heap):Prop where
 w:Wd K q km u env'
 kc:KC km h0 K
 sl:Sl K sv 35 (gs.map (vrow u env))
def gvE (u:U) (env:En) (gs:List Gv) (k:Nat):En:=(gs.take k).foldl (fun en g=>setE g.name g.e.set (evE u env g.e) en) env
theorem yh4 {h0 K:Heap} {q km:Nat} {u:U} {env:En} {gs:List Gv} {k:Nat} {sv:Value} (e:GvS h0 q km u env (gvE u env gs k) gs sv K) {g:Gv} (hg:gs[k]?=some g) (hkd:kdE env g.e=g.e.set) (b:Nat):
  ∃b' o v c K2,(∀H',rowO H' 35 sv (.int .i64 (k:Int))=some (.pointer (some ⟨b',o,some v⟩),H'))∧Heap.read (K++[.cells (wv g (pt b)) 0 false]) ⟨b',o,some v⟩ 35=some (vrow u env g)∧
   DF FF jc [pt q,str g.name,agg (vrow u env g)] (K++[.cells (wv g (pt b)) 0 false])=some (.bool c,K2)∧GvS h0 q km u env (gvE u env gs (k+1)) gs sv K2:=by
 have hk:=(yoq.1 hg).1
 obtain ⟨b',o,v,a1,a2⟩:=(e.sl.kc (KC.more (km:=km) K [.cells (wv g (pt b)) 0 false])).atH (k:=k) (by simpa using hk)
 obtain ⟨c,K2,q1,w2,k2,_⟩:=ydk (e.w.more [.cells (wv g (pt b)) 0 false]) g.name (nmE env g.e) (kdE env g.e) (evE u env g.e)
 refine ⟨b',o,v,c,K2,a1,?_,q1,⟨?_,(e.kc.trans (KC.more _ _)).trans k2,(e.sl.kc (KC.more (km:=km) _ _)).kc k2⟩⟩
 ·rw [a2,List.getElem_map,(yoq.1 hg).2]
 ·rw [gvE,zbo hg];rw [hkd] at w2;exact w2
def GvI (h h0:Heap) (q km:Nat) (u:U) (env:En) (gs:List Gv) (s:Value) (k:Nat) (st:St):Prop:=∃K sv,(∃j:Nat→Value,st=⟨[pt q,j 1,j 2,j 3,j 4,sv,j 6,j 7,j 8,j 9,j 10,j 11,j 12,j 13,j 14,j 15,j 16,j 17,j 18,j 19,j 20,j 21,j 22,j 23,j 24,j 25,j 26,j 27,j 28,j 29,j 30,j 31,j 32,j 33,j 34,j 35,s,.int .i64 (gs.length:Int),.int .i64 (k:Int),j 39,j 40,j 41,j 42,j 43,j 44,j 45,j 46,j 47,j 48,j 49,j 50,j 51,j 52,j 53,j 54,j 55,j 56,j 57,j 58,j 59,j 60,j 61,j 62,j 63,j 64,j 65,j 66,j 67,j 68,j 69,j 70,j 71,j 72,j 73,j 74,j 75,j 76,j 77,j 78,j 79,j 80,j 81,j 82,j 83,j 84,j 85,j 86,j 87,j 88,j 89,j 90,j 91,j 92,j 93,j 94,j 95,j 96,j 97,j 98,j 99,j 100,j 101,j 102,j 103,j 104,j 105,j 106,j 107,j 108,j 109,j 110,j 111,j 112,j 113,j 114,j 115,j 116],K⟩)∧GvS h0 q km u env (gvE u env gs k) gs sv K
def GvO (h h0:Heap) (q km:Nat) (u:U) (env:En) (gs:List Gv) (st:St):Prop:=∃K,(∃j:Nat→Value,st=⟨[j 0,j 1,j 2,j 3,j 4,j 5,j 6,j 7,j 8,j 9,j 10,j 11,j 12,j 13,j 14,j 15,j 16,j 17,j 18,j 19,j 20,j 21,j 22,j 23,j 24,j 25,j 26,j 27,j 28,j 29,j 30,j 31,j 32,j 33,j 34,j 35,j 36,j 37,j 38,j 39,j 40,j 41,j 42,j 43,j 44,j 45,j 46,j 47,j 48,j 49,j 50,j 51,j 52,j 53,j 54,j 55,j 56,j 57,j 58,j 59,j 60,j 61,j 62,j 63,j 64,j 65,j 66,j 67,j 68,j 69,j 70,j 71,j 72,j 73,j 74,j 75,j 76,j 77,j 78,j 79,j 80,j 81,j 82,j 83,j 84,j 85,j 86,j 87,j 88,j 89,j 90,j 91,j 92,j 93,j 94,j 95,j 96,j 97,j 98,j 99,j 100,j 101,j 102,j 103,j 104,j 105,j 106,j 107,j 108,j 109,j 110,j 111,j 112,j 113,j 114,j 115,j 116],K⟩)∧Wd K q km u (yhh u gs env)∧KC km h0 K
set_option maxHeartbeats 8000000 in
theorem yhb {h:Heap} {q km:Nat} {u:U} {env:En} {kn:Kn} {S:Nat→Prop} {vs:List Value} {s:Value} {gs:List Gv} (W:Wd h q km u env) (hs:Sl h s 3 (List.zipWith wv gs vs)) (G:GsP h S vs gs) (hl:gs.length≤8192) (kd:KdOk kn env) (ty:∀g∈gs,Typ kn g.e):
  ∃h',DF FF qa [pt q,agg [str wLet,s,nilP,str []]] h=some (.bool true,h')∧Wd h' q km u (yhh u gs env)∧KC km h h':=by
 have:∃v h',DF FF qa [pt q,agg [str wLet,s,nilP,str []]] h=some (v,h')∧(v=.bool true∧Wd h' q km u (yhh u gs env)∧KC km h h'):=by
  refine yb zc3 ?_
  have lens:∀K,lenO K s=some (.int .i64 (gs.length:Int),K):=fun K=>by rw [hs.len,zgy G.len]
  obtain ⟨h0,hh0⟩:∃h0,h0=h++[AObj.cells [str [108,101,116],s,nilP,str []] 0 false]:=⟨_,rfl⟩
  have k0:KC km h h0:=by rw [hh0];exact KC.more _ _
  have W0:Wd h0 q km u env:=by rw [hh0];exact W.more _
  have g0:h0[h.length]?=some (.cells [str [108,101,116],s,nilP,str []] 0 false):=by rw [hh0];simp
  have rg:∀K,KC km h0 K→∀j,Heap.read1 K ⟨h.length,j,some 0⟩=([str [108,101,116],s,nilP,str []]:List Value)[j]?:=fun K kc j=>zr (kc.keep _ _ _ _ g0)
  have rg0:=rg h0 (KC.refl _)
  simp only [j8,zb,yor,yos,zg,ze,zf,yf,zai,wLet,zg,←hh0,rg0,lens,pkA,pkB]
  refine jv 1 gs.length (VlI h h0 q km u env gs s) (VlO h h0 q km u env gs) ?_ ?_ _ ⟨h0,_,junk rfl,W0,KC.refl _,Own.nil _ _ _,fun b hb=>by simp [blk] at hb⟩ ?_
  ·rintro k st hk ⟨K,sv,⟨j,rfl⟩,e⟩
   have hg:gs[k]?=some gs[k]:=yow hk
   obtain ⟨b,S',b',o,v,a1,a2,t⟩:=yd4 hs G (k0.trans e.kc) hg
   obtain ⟨q1,s',K2,p1,e'⟩:=ykg W0 e hg hl t
   have h1:((k:Int)<(gs.length:Int))=True:=by simp;omega
   simp only [zb,yor,slc,zc,fh,h1,a1,a2,kf,zgu,q1,ybj,p1,zs (k:=k) (by omega),pkA,pkB]
   exact ⟨K2,s',junk rfl,e'⟩
  ·rintro st ⟨K,sv,⟨j,rfl⟩,e⟩
   have h1:((gs.length:Int)<(gs.length:Int))=False:=by simp
   simp only [zb,x8,zq,h1,x8,pkA]
   exact ⟨K,sv,junk rfl,e⟩
  rintro st ⟨K,sv,⟨j,rfl⟩,e⟩
  have rgK:=rg K e.kc
  simp only [zb,rgK,lens,pkA,pkB]
  refine jv 3 gs.length (GvI h h0 q km u env gs s) (GvO h h0 q km u env gs) ?_ ?_ _ ⟨K,sv,junk rfl,e.w,e.kc,by have:=e.own.sl;rwa [ypq] at this⟩ ?_
  ·rintro k st hk ⟨K,sv,⟨j,rfl⟩,e⟩
   have hg:gs[k]?=some gs[k]:=yow hk
   obtain ⟨b,S',b',o,v,a1,a2,t⟩:=yd4 hs G (k0.trans e.kc) hg
   obtain ⟨b2,o2,v2,c,K2,r1,r2,q1,e'⟩:=yh4 e hg (zus kd (ty _ (List.getElem_mem hk))) b
   have h1:((k:Int)<(gs.length:Int))=True:=by simp;omega
   simp only [zb,yor,zc,h1,a1,a2,kf,zha,r1,r2,q1,zs (k:=k) (by omega),pkA,pkB]
   exact ⟨K2,sv,junk rfl,e'⟩
  ·rintro st ⟨K,sv,⟨j,rfl⟩,e⟩
   have h1:((gs.length:Int)<(gs.length:Int))=False:=by simp
   simp only [zb,x8,zq,h1,x8,pkA]
   have w:=e.w
   rw [gvE,ypq] at w
   exact ⟨K,junk rfl,w,e.kc⟩
  rintro st ⟨K,⟨j,rfl⟩,w,k⟩
  simp only [zy,pkA]
  exact ⟨trivial,W.fin w _,(k0.trans k).fin _⟩
 obtain ⟨v,h',hq,rfl,hw,hk⟩:=this
 exact ⟨h',hq,hw,hk⟩
def zrE (env:En) (gs:List Gv) (k:Nat):En:=(gs.take k).foldl (fun en g=>setE g.name false v0 en) env
def rdE (u:U) (en:En) (gs:List Gv) (k:Nat):En×Bool:=(gs.take k).foldl (zqw u) (en,false)
def ZrI (h h0:Heap) (q km:Nat) (u:U) (env:En) (gs:List Gv) (s:Value) (k:Nat) (st:St):Prop:=∃K,(∃j:Nat→Value,st=⟨[pt q,j 1,j 2,pt h.length,j 4,j 5,j 6,j 7,j 8,j 9,j 10,j 11,j 12,j 13,j 14,j 15,j 16,j 17,j 18,j 19,j 20,j 21,j 22,j 23,j 24,j 25,j 26,j 27,j 28,j 29,j 30,j 31,j 32,j 33,j 34,j 35,j 36,j 37,j 38,j 39,j 40,j 41,j 42,j 43,j 44,j 45,j 46,j 47,j 48,j 49,j 50,j 51,j 52,j 53,j 54,s,.int .i64 (gs.length:Int),.int .i64 (k:Int),j 58,j 59,j 60,j 61,j 62,j 63,j 64,j 65,j 66,j 67,j 68,j 69,j 70,j 71,j 72,j 73,j 74,j 75,j 76,j 77,j 78,j 79,j 80,j 81,j 82,j 83,j 84,j 85,j 86,j 87,j 88,j 89,j 90,j 91,j 92,j 93,j 94,j 95,j 96,j 97,j 98,j 99,j 100,j 101,j 102,j 103,j 104,j 105,j 106,j 107,j 108,j 109,j 110,j 111,j 112,j 113,j 114,j 115,j 116],K⟩)∧Wd K q km u (zrE env gs k)∧KC km h0 K
def ZrO (h h0:Heap) (q km:Nat) (u:U) (env:En) (gs:List Gv) (st:St):Prop:=∃K,(∃j:Nat→Value,st=⟨[pt q,j 1,j 2,pt h.length,j 4,j 5,j 6,j 7,j 8,j 9,j 10,j 11,j 12,j 13,j 14,j 15,j 16,j 17,j 18,j 19,j 20,j 21,j 22,j 23,j 24,j 25,j 26,j 27,j 28,j 29,j 30,j 31,j 32,j 33,j 34,j 35,j 36,j 37,j 38,j 39,j 40,j 41,j 42,j 43,j 44,j 45,j 46,j 47,j 48,j 49,j 50,j 51,j 52,j 53,j 54,j 55,j 56,j 57,j 58,j 59,j 60,j 61,j 62,j 63,j 64,j 65,j 66,j 67,j 68,j 69,j 70,j 71,j 72,j 73,j 74,j 75,j 76,j 77,j 78,j 79,j 80,j 81,j 82,j 83,j 84,j 85,j 86,j 87,j 88,j 89,j 90,j 91,j 92,j 93,j 94,j 95,j 96,j 97,j 98,j 99,j 100,j 101,j 102,j 103,j 104,j 105,j 106,j 107,j 108,j 109,j 110,j 111,j 112,j 113,j 114,j 115,j 116],K⟩)∧Wd K q km u (zg4 gs env)∧KC km h0 K
def WlI (h h0:Heap) (q km:Nat) (u:U) (kn:Kn) (gs:List Gv) (fin:En) (m:Nat) (st:St):Prop:=∃K en c,(∃j:Nat→Value,st=⟨[pt q,j 1,j 2,pt h.length,j 4,j 5,j 6,j 7,j 8,j 9,j 10,j 11,.bool c,j 13,j 14,j 15,j 16,j 17,j 18,j 19,j 20,j 21,j 22,j 23,j 24,j 25,j 26,j 27,j 28,j 29,j 30,j 31,j 32,j 33,j 34,j 35,j 36,j 37,j 38,j 39,j 40,j 41,j 42,j 43,j 44,j 45,j 46,j 47,j 48,j 49,j 50,j 51,j 52,j 53,j 54,j 55,j 56,j 57,j 58,j 59,j 60,j 61,j 62,j 63,j 64,j 65,j 66,j 67,j 68,j 69,j 70,j 71,j 72,j 73,j 74,j 75,j 76,j 77,j 78,j 79,j 80,j 81,j 82,j 83,j 84,j 85,j 86,j 87,j 88,j 89,j 90,j 91,j 92,j 93,j 94,j 95,j 96,j 97,j 98,j 99,j 100,j 101,j 102,j 103,j 104,j 105,j 106,j 107,j 108,j 109,j 110,j 111,j 112,j 113,j 114,j 115,j 116],K⟩)∧Wd K q km u en∧KC km h0 K∧RecI u kn gs en∧((c=true∧∃n,m=n+1∧Ends u gs n en∧recN u gs n en=fin)∨(c=false∧en=fin))
def WlO (h0:Heap) (q km:Nat) (u:U) (fin:En) (st:St):Prop:=∃K,(∃j:Nat→Value,st=⟨[j 0,j 1,j 2,j 3,j 4,j 5,j 6,j 7,j 8,j 9,j 10,j 11,j 12,j 13,j 14,j 15,j 16,j 17,j 18,j 19,j 20,j 21,j 22,j 23,j 24,j 25,j 26,j 27,j 28,j 29,j 30,j 31,j 32,j 33,j 34,j 35,j 36,j 37,j 38,j 39,j 40,j 41,j 42,j 43,j 44,j 45,j 46,j 47,j 48,j 49,j 50,j 51,j 52,j 53,j 54,j 55,j 56,j 57,j 58,j 59,j 60,j 61,j 62,j 63,j 64,j 65,j 66,j 67,j 68,j 69,j 70,j 71,j 72,j 73,j 74,j 75,j 76,j 77,j 78,j 79,j 80,j 81,j 82,j 83,j 84,j 85,j 86,j 87,j 88,j 89,j 90,j 91,j 92,j 93,j 94,j 95,j 96,j 97,j 98,j 99,j 100,j 101,j 102,j 103,j 104,j 105,j 106,j 107,j 108,j 109,j 110,j 111,j 112,j 113,j 114,j 115,j 116],K⟩)∧Wd K q km u fin∧KC km h0 K
def RdI (h h0:Heap) (q km:Nat) (u:U) (en:En) (gs:List Gv) (s:Value) (k:Nat) (st:St):Prop:=∃K,(∃j:Nat→Value,st=⟨[pt q,j 1,j 2,pt h.length,j 4,j 5,j 6,j 7,j 8,j 9,j 10,j 11,.bool (rdE u en gs k).2,j 13,j 14,j 15,j 16,j 17,j 18,j 19,j 20,j 21,j 22,j 23,j 24,j 25,j 26,j 27,j 28,j 29,j 30,j 31,j 32,j 33,j 34,j 35,j 36,j 37,j 38,j 39,j 40,j 41,j 42,j 43,j 44,j 45,j 46,j 47,j 48,j 49,j 50,j 51,j 52,j 53,j 54,j 55,j 56,j 57,j 58,j 59,j 60,j 61,j 62,j 63,j 64,j 65,j 66,j 67,j 68,s,.int .i64 (gs.length:Int),.int .i64 (k:Int),j 72,j 73,j 74,j 75,j 76,j 77,j 78,j 79,j 80,j 81,j 82,j 83,j 84,j 85,j 86,j 87,j 88,j 89,j 90,j 91,j 92,j 93,j 94,j 95,j 96,j 97,j 98,j 99,j 100,j 101,j 102,j 103,j 104,j 105,j 106,j 107,j 108,j 109,j 110,j 111,j 112,j 113,j 114,j 115,j 116],K⟩)∧Wd K q km u (rdE u en gs k).1∧KC km h0 K
def RdO (h h0:Heap) (q km:Nat) (u:U) (en:En) (gs:List Gv) (st:St):Prop:=∃K,(∃j:Nat→Value,st=⟨[pt q,j 1,j 2,pt h.length,j 4,j 5,j 6,j 7,j 8,j 9,j 10,j 11,.bool (zet u gs en).2,j 13,j 14,j 15,j 16,j 17,j 18,j 19,j 20,j 21,j 22,j 23,j 24,j 25,j 26,j 27,j 28,j 29,j 30,j 31,j 32,j 33,j 34,j 35,j 36,j 37,j 38,j 39,j 40,j 41,j 42,j 43,j 44,j 45,j 46,j 47,j 48,j 49,j 50,j 51,j 52,j 53,j 54,j 55,j 56,j 57,j 58,j 59,j 60,j 61,j 62,j 63,j 64,j 65,j 66,j 67,j 68,j 69,j 70,j 71,j 72,j 73,j 74,j 75,j 76,j 77,j 78,j 79,j 80,j 81,j 82,j 83,j 84,j 85,j 86,j 87,j 88,j 89,j 90,j 91,j 92,j 93,j 94,j 95,j 96,j 97,j 98,j 99,j 100,j 101,j 102,j 103,j 104,j 105,j 106,j 107,j 108,j 109,j 110,j 111,j 112,j 113,j 114,j 115,j 116],K⟩)∧Wd K q km u (zet u gs en).1∧KC km h0 K
theorem ykd {h0 K:Heap} {q km:Nat} {u:U} {kn:Kn} {rc:List Bys} {en:En} {gs:List Gv} (G:RecG kn rc gs) (I:RecI u kn gs en) {k:Nat} (w:Wd K q km u (rdE u en gs k).1) (kc:KC km h0 K) {g:Gv} (hg:gs[k]?=some g) {b:Nat} {S':Nat→Prop} (t:TreeP K S' (pt b) g.e):
  ∃c row K2,DF FF x9 [pt q,pt b] (K++[.cells (wv g (pt b)) 0 false])=some (agg row,K++[.cells (wv g (pt b)) 0 false])∧DF FF jc [pt q,str g.name,agg row] (K++[.cells (wv g (pt b)) 0 false])=some (.bool c,K2)∧Wd K2 q km u (rdE u en gs (k+1)).1∧KC km h0 K2∧(rdE u en gs (k+1)).2=((rdE u en gs k).2 || c):=by
 obtain ⟨I2,_,_⟩:=zj3 G (gs.take k) (en,false) (fun g hg=>yqi hg) I
 have hm:g∈gs:=yp3 hg
 obtain ⟨v,hv,_⟩:=I2.at_ g hm
 have hkd:kdE (rdE u en gs k).1 g.e=g.e.set:=zus I2.kd (G.ty g hm)
 obtain ⟨c,K2,q1,w2,k2,hc⟩:=ydk (w.more [.cells (wv g (pt b)) 0 false]) g.name (nmE (rdE u en gs k).1 g.e) (kdE (rdE u en gs k).1 g.e) (evE u (rdE u en gs k).1 g.e)
 rw [hkd] at w2
 have e:rdE u en gs (k+1)=zqw u (rdE u en gs k) g:=zbo hg _ _
 refine ⟨c,_,K2,zhl u _ g.e _ q km S' (pt b) (w.more _) (t.keep fun _ _ _ ho=>zm _ ho),q1,by rw [e];exact w2,(kc.trans (KC.more _ _)).trans k2,?_⟩
 rw [e,hc _ hv,hkd]
 show (_ || chg (p8 g.name (rdE u en gs k).1) _ _)=_
 rw [show p8 g.name (rdE u en gs k).1=some (false,v) from hv]
set_option maxHeartbeats 8000000 in
theorem yht {h:Heap} {q km:Nat} {u:U} {env:En} {kn:Kn} {rc:List Bys} {S:Nat→Prop} {vs:List Value} {s:Value} {gs:List Gv} (W:Wd h q km u env) (hs:Sl h s 3 (List.zipWith wv gs vs)) (G:GsP h S vs gs) (hl:gs.length≤8192) (GG:RecG kn rc gs) (I0:RecI u kn gs (zg4 gs env)):
  ∃h',DF FF qa [pt q,agg [str wRec,s,nilP,str []]] h=some (.bool true,h')∧Wd h' q km u (recN u gs (recK gs) (zg4 gs env))∧KC km h h':=by
 have:∃v h',DF FF qa [pt q,agg [str wRec,s,nilP,str []]] h=some (v,h')∧(v=.bool true∧Wd h' q km u (recN u gs (recK gs) (zg4 gs env))∧KC km h h'):=by
  refine yb zc3 ?_
  have lens:∀K,lenO K s=some (.int .i64 (gs.length:Int),K):=fun K=>by rw [hs.len,zgy G.len]
  obtain ⟨h0,hh0⟩:∃h0,h0=h++[AObj.cells [str [114,101,99],s,nilP,str []] 0 false]:=⟨_,rfl⟩
  have k0:KC km h h0:=by rw [hh0];exact KC.more _ _
  have W0:Wd h0 q km u env:=by rw [hh0];exact W.more _
  have g0:h0[h.length]?=some (.cells [str [114,101,99],s,nilP,str []] 0 false):=by rw [hh0];simp
  have rg:∀K,KC km h0 K→∀j,Heap.read1 K ⟨h.length,j,some 0⟩=([str [114,101,99],s,nilP,str []]:List Value)[j]?:=fun K kc j=>zr (kc.keep _ _ _ _ g0)
  have rg0:=rg h0 (KC.refl _)
  have hE:Ends u gs (recK gs) (zg4 gs env):=zw1 GG _ _ I0 (by unfold recK;omega)
  obtain ⟨fin,hfin⟩:∃fin,fin=recN u gs (recK gs) (zg4 gs env):=⟨_,rfl⟩
  rw [←hfin]
  simp only [j8,zb,yor,yos,zg,ze,zf,yf,zai,wRec,ylw,zg,←hh0,rg0,lens,pkA,pkB]
  refine jv 5 gs.length (ZrI h h0 q km u env gs s) (ZrO h h0 q km u env gs) ?_ ?_ _ ⟨h0,junk rfl,W0,KC.refl _⟩ ?_
  ·rintro k st hk ⟨K,⟨j,rfl⟩,w,kc⟩
   have hg:gs[k]?=some gs[k]:=yow hk
   obtain ⟨b,S',b',o,v,a1,a2,t⟩:=yd4 hs G (k0.trans kc) hg
   obtain ⟨c,K2,q1,w2,k2,_⟩:=ydk (w.more [.cells (wv gs[k] (pt b)) 0 false]) gs[k].name [] false v0
   have h1:((k:Int)<(gs.length:Int))=True:=by simp;omega
   simp only [zb,yor,zc,h1,a1,a2,kf,zha,q1,zs (k:=k) (by omega),pkA,pkB]
   exact ⟨K2,junk rfl,by rw [zrE,zbo hg];exact w2,(kc.trans (KC.more _ _)).trans k2⟩
  ·rintro st ⟨K,⟨j,rfl⟩,w,kc⟩
   have h1:((gs.length:Int)<(gs.length:Int))=False:=by simp
   simp only [zb,x8,zq,h1,x8,pkA]
   rw [zrE,ypq] at w
   exact ⟨K,junk rfl,w,kc⟩
  rintro st ⟨K,⟨j,rfl⟩,w,kc⟩
  simp only [pkA]
  refine zj5 7 (WlI h h0 q km u kn gs fin) (WlO h0 q km u fin) ?_ (recK gs+1) _ ⟨K,_,true,junk rfl,w,kc,I0,.inl ⟨rfl,_,rfl,hE,hfin.symm⟩⟩ ?_
  ·rintro m st ⟨K,en,c,⟨j,rfl⟩,w,kc,I,⟨rfl,n,rfl,hE,hf⟩ | ⟨rfl,rfl⟩⟩
   ·have rgK:=rg K kc
    simp only [zb,rgK,lens,pkA,pkB]
    refine jv 9 gs.length (RdI h h0 q km u en gs s) (RdO h h0 q km u en gs) ?_ ?_ _ ⟨K,junk rfl,w,kc⟩ ?_
    ·rintro k st hk ⟨K,⟨j,rfl⟩,w,kc⟩
     have hg:gs[k]?=some gs[k]:=yow hk
     obtain ⟨b,S',b',o,v,a1,a2,t⟩:=yd4 hs G (k0.trans kc) hg
     obtain ⟨c,row,K2,q1,q2,w2,k2,hc⟩:=ykd GG I w kc hg t
     have h1:((k:Int)<(gs.length:Int))=True:=by simp;omega
     have ag:zbd (K++[.cells (wv gs[k] (pt b)) 0 false]) (.pointer (some ⟨K.length,0,some 0⟩)) (str gs[k].name)=some (undef,K++[.cells (wv gs[k] (pt b)) 0 false]):=zzk (by simp [Heap.read1,wv])
     cases c
     ·simp only [zi,zb,yor,zak,zc,h1,a1,a2,kf,zha,zgu,q1,ag,q2,zs (k:=k) (by omega),pkA,pkB]
      rw [Bool.or_false] at hc
      exact ⟨K2,by rw [hc];exact junk rfl,w2,k2⟩
     ·simp only [zi,zb,yor,zak,zc,h1,a1,a2,kf,zha,zgu,q1,ag,q2,zs (k:=k) (by omega),pkA,pkB]
      rw [Bool.or_true] at hc
      exact ⟨K2,by rw [hc];exact junk rfl,w2,k2⟩
    ·rintro st ⟨K,⟨j,rfl⟩,w,kc⟩
     have h1:((gs.length:Int)<(gs.length:Int))=False:=by simp
     simp only [zb,x8,zq,h1,x8,pkA]
     have e:rdE u en gs gs.length=zet u gs en:=by unfold rdE zet;rw [ypq]
     rw [e] at w
     exact ⟨K,by rw [e];exact junk rfl,w,kc⟩
    rintro st ⟨K,⟨j,rfl⟩,w,kc⟩
    simp only [ze7,zhs,zj6]
    obtain ⟨I2,_,_⟩:=zj3 GG gs (en,false) (fun g hg=>hg) I
    cases n with
    | zero=>exact hE.elim
    | succ n=>
     rw [Ends] at hE
     rw [recN] at hf
     rcases hE with hE | ⟨hE,hE2⟩
     ·rw [if_neg (by rw [hE];simp)] at hf
      exact ⟨0,by omega,K,_,_,junk rfl,w,kc,I2,.inr ⟨hE,hf⟩⟩
     ·rw [if_pos hE] at hf
      exact ⟨n+1,by omega,K,_,_,junk rfl,w,kc,I2,.inl ⟨hE,n,rfl,hE2,hf⟩⟩
   ·simp only [x8,x8,pkA]
    exact ⟨K,junk rfl,w,kc⟩
  rintro st ⟨K,⟨j,rfl⟩,w,kc⟩
  simp only [zy,pkA]
  exact ⟨trivial,W.fin w _,(k0.trans kc).fin _⟩
 obtain ⟨v,h',hq,rfl,hw,hk⟩:=this
 exact ⟨h',hq,hw,hk⟩
/-- As it was looked at. -/
def ydg (kn:Kn):Stm→Prop
 | .lets false gs=>gs.length≤8192∧(∀g∈gs,Typ kn g.e)∧(∀g∈gs,wn kn g.name=none)∧(gs.map (·.name)).Nodup
 | .lets true gs=>gs.length≤8192∧RecG (kn++gs.map fun g=>(g.name,false)) (gs.map (·.name)) gs∧(∀g∈gs,wn kn g.name=none)∧(gs.map (·.name)).Nodup
 | .chk _ x _=>Typ kn x
def zsa:Kn→List Stm→Prop
 | _,[]=>True
 | kn,s::l=>ydg kn s∧zsa (kn++s.given) l
structure EnI (kn:Kn) (env:En):Prop where
 kd:KdOk kn env
 z:S0 env
theorem zow {kn:Kn}:∀{gs:List Gv} {n:Nat} {here:List Bys},bv kn n here gs=.ok ()→(∀g∈gs,wn kn g.name=none∧g.name∉here)∧(gs.map (·.name)).Nodup
 | [],n,here,h=>⟨by simp,by simp⟩
 | g'::gs,n,here,h=>by
  rw [bv] at h
  split at h
  ·cases h
  ·rename_i h1
   split at h
   ·cases h
   ·have h1:=Bool.not_eq_true _ |>.mp h1
    rw [ypu] at h1
    obtain ⟨a,b⟩:=zow h
    refine ⟨fun g hg=> ?_,?_⟩
    ·rcases ypx.1 hg with rfl | hg
     ·exact ⟨by simpa using h1.1,by simpa using h1.2⟩
     ·exact ⟨(a g hg).1,fun hh=>(a g hg).2 (by simp [hh])⟩
    ·rw [ypr,List.nodup_cons]
     refine ⟨fun hh=> ?_,b⟩
     obtain ⟨g,hg,he⟩:=List.mem_map.1 hh
     exact (a g hg).2 (by simp [he])
theorem ydu {gs:List Gv} (h:(gs.map (·.name)).Nodup):∀g∈gs,∀g'∈gs,g.name=g'.name→g=g':=by
 induction gs with
 | nil=>intro g hg;cases hg
 | cons x gs ih=>
  rw [ypr,List.nodup_cons] at h
  intro g hg g' hg' e
  rcases ypx.1 hg with h1 | h1 <;> rcases ypx.1 hg' with h2 | h2
  ·rw [h1,h2]
  ·subst h1;exact absurd (List.mem_map.2 ⟨g',h2,e.symm⟩) h.1
  ·subst h2;exact absurd (List.mem_map.2 ⟨g,h1,e⟩) h.1
  ·exact ih h.2 g h1 g' h2 e
theorem yea {F:Gv→Vv}:∀{gs:List Gv} {kn:Kn} {env:En},KdOk kn env→(∀g∈gs,wn kn g.name=none)→(gs.map (·.name)).Nodup→KdOk (kn++x5 gs) (gs.foldl (fun en g=>setE g.name g.e.set (F g) en) env)
 | [],kn,env,k,_,_=>by simpa [x5] using k
 | g::gs,kn,env,k,hf,hn=>by
  rw [ypr,List.nodup_cons] at hn
  have h0:=hf g (by simp)
  have k1:KdOk (kn++[(g.name,g.e.set)]) (setE g.name g.e.set (F g) env):=fun w=>by
   rw [zag,fi]
   by_cases hw:w=g.name
   ·subst hw
    rw [if_pos (by simp),h0];simp [wn]
   ·rw [if_neg (by simpa using hw),k w]
    have:wn [(g.name,g.e.set)] w=none:=by rw [wn,if_neg (by simpa using hw)];rfl
    rw [this,Option.or_none]
  have:=yea (F:=F) (gs:=gs) k1 (fun g' hg'=>by
   rw [fi,hf g' (by simp [hg'])]
   have:g'.name≠g.name:=fun e=>hn.1 (List.mem_map.2 ⟨g',hg',e⟩)
   rw [Option.none_or,wn,if_neg (by simpa using this)];rfl) hn.2
  rw [yp4] at this
  exact this
theorem ya0 {F:Gv→Vv}:∀{gs:List Gv} {env:En},S0 env→(∀g∈gs,g.e.set=false→(F g).s=0#32)→S0 (gs.foldl (fun en g=>setE g.name g.e.set (F g) en) env)
 | [],env,z,_=>z
 | g::gs,env,z,hf=>by
  refine ya0 (gs:=gs) (fun w v h=> ?_) fun g' hg'=>hf g' (by simp [hg'])
  rw [zag] at h
  by_cases hw:w=g.name
  ·rw [if_pos (by simpa using hw)] at h
   simp only [yot,yo2] at h
   obtain ⟨h1,rfl⟩:=h
   exact hf g (by simp) h1
  ·rw [if_neg (by simpa using hw)] at h;exact z w v h
theorem zt9 {u:U} {kn:Kn} {gs:List Gv} {env:En} (e:EnI kn env) (hf:∀g∈gs,wn kn g.name=none):RecI u (kn++gs.map fun g=>(g.name,false)) gs (zg4 gs env):=by
 refine ygh e.kd e.z fun w=> ?_
 rw [fi]
 have key:∀l:List Gv,wn (l.map fun g=>(g.name,false)) w=if l.any (fun g=>w==g.name) then some false else none:=by
  intro l
  induction l with
  | nil=>rfl
  | cons g l ih=>
   rw [ypr,wn,ih,List.any_cons]
   cases w==g.name <;> simp
 rw [key]
 split
 ·rename_i h
  obtain ⟨g,hg,he⟩:=List.any_eq_true.1 h
  have:w=g.name:=eq_of_beq he
  rw [this,hf g hg];rfl
 ·exact Option.or_none
theorem ymy {u:U} {kn:Kn} {env:En} {st:Stm} (ok:ydg kn st) (e:EnI kn env):EnI (kn++st.given) (doE u env st):=by
 cases st with
 | chk k x a=>simpa [Stm.given,doE] using e
 | lets rc gs=>
  cases rc with
  | false=>
   obtain ⟨_,ty,hf,hn⟩:=ok
   exact ⟨yea e.kd hf hn,ya0 e.z fun g hg hs=>zsq e.kd e.z (ty g hg) hs⟩
  | true=>
   obtain ⟨_,G,hf,hn⟩:=ok
   have:=(ybl G (recK gs) _ (zt9 (u:=u) e hf)).1
   have hs:x5 gs=gs.map fun g=>(g.name,false):=List.map_congr_left fun g hg=>by rw [G.st g hg]
   show EnI (kn++x5 gs) _
   rw [hs]
   exact ⟨this.kd,this.z⟩
theorem yjm {kn:Kn} {n:Nat} {s s':Stm} (h:chkS kn n s=.ok s') (hl:∀rc gs,s=.lets rc gs→gs.length≤8192):ydg kn s':=by
 cases s with
 | chk k x a=>
  rw [chkS] at h
  split at h
  ·cases h
  ·rename_i x' hx
   split at h
   ·cases h
   ·cases h;exact zf8 hx
 | lets rc gs=>
  have hl:=hl rc gs rfl
  rw [chkS] at h
  split at h
  ·cases h
  ·rename_i hf
   split at h
   ·cases h
   ·rename_i l hg
    cases h
    obtain ⟨f1,f2⟩:=zow hf
    have hnm:=ziv hg
    have hnames:l.map (·.name)=gs.map (·.name):=by
     have:=congrArg (List.map Prod.fst) hnm
     simpa [List.map_map,Function.comp_def] using this
    have hll:l.length=gs.length:=by have:=congrArg List.length hnm;simpa using this
    have hfr:∀g∈l,wn kn g.name=none:=fun g hgm=>by
     have:g.name∈gs.map (·.name):=by rw [←hnames];exact List.mem_map.2 ⟨g,hgm,rfl⟩
     obtain ⟨g',hg',he⟩:=List.mem_map.1 this
     rw [←he];exact (f1 g' hg').1
    have each:∀{kn rc b} {gs l:List Gv},zaf kn rc b gs=.ok l→∀g∈l,Typ kn g.e∧NoR rc false g.e:=by
     intro kn rc b gs
     induction gs with
     | nil=>intro l h g hg;rw [zaf] at h;cases h;cases hg
     | cons g0 gs ih=>
      intro l h g hg
      rw [zaf] at h
      split at h
      ·cases h
      ·rename_i x hx
       split at h
       ·cases h
       ·split at h
        ·cases h
        ·rename_i l' hl'
         cases h
         rcases ypx.1 hg with rfl | hg
         ·exact ⟨zf8 hx,zh6 hx⟩
         ·exact ih hl' g hg
    cases rc with
    | false=>exact ⟨by omega,fun g hgm=>(each hg g hgm).1,hfr,by rw [hnames];exact f2⟩
    | true=>
     have e:(gs.map fun g=>(g.name,false))=l.map fun g=>(g.name,false):=by
      have:=congrArg (List.map fun w:Bys=>(w,false)) hnames
      simpa [List.map_map,Function.comp_def] using this.symm
     simp only [if_true] at hg
     refine ⟨by omega,⟨fun g hgm=>by rw [←e];exact (each hg g hgm).1,zk4 hg,fun g hgm=>by rw [hnames];exact (each hg g hgm).2,fun g hgm=>List.mem_map.2 ⟨g,hgm,rfl⟩,ydu (by rw [hnames];exact f2)⟩,hfr,by rw [hnames];exact f2⟩
theorem ycr:∀{l l':List Stm} {kn:Kn} {n:Nat},chkM kn n l=.ok l'→(∀rc gs,Stm.lets rc gs∈l→gs.length≤8192)→zsa kn l'
 | [],l',kn,n,h,_=>by rw [chkM] at h;cases h;trivial
 | s::l,l',kn,n,h,hl=>by
  rw [chkM] at h
  split at h
  ·cases h
  ·rename_i s' hs
   split at h
   ·cases h
   ·rename_i l2 hl2
    cases h
    exact ⟨yjm hs fun rc gs e=>hl rc gs (by simp [e]),ycr hl2 fun rc gs hm=>hl rc gs (by simp [hm])⟩
theorem yly {h:Heap} {q km:Nat} {u:U} {kn:Kn} {env:En} {T:Nat→Prop} {row:List Value} {st:Stm} (W:Wd h q km u env) (p:StP h T row st) (ok:ydg kn st) (e:EnI kn env):
  ∃h',DF FF qa [pt q,agg row] h=some (.bool (yff u env st),h')∧Wd h' q km u (doE u env st)∧KC km h h':=by
 cases st with
 | chk k x a=>
  obtain ⟨v,rfl,t⟩:=p
  exact ⟨h,yhx W t k a,W,KC.refl _⟩
 | lets rc gs=>
  obtain ⟨s,vs,S,rfl,hs,G,_,_⟩:=p
  cases rc with
  | false=>
   obtain ⟨hl,ty,hf,hn⟩:=ok
   exact yhb W hs G hl e.kd ty
  | true=>
   obtain ⟨hl,RG,hf,hn⟩:=ok
   exact yht W hs G hl RG (zt9 e hf)
/-- What is zah, in a row. -/
def zaz (bl:En):List (List Value):=bl.map fun p=>wo p.1 p.2.1 p.2.2
def isD (d:Bys×Bool) (p:Bys×Bool×Vv):Bool:=p.1==d.1&&p.2.1==d.2
def idxD (d:Bys×Bool):En→Option Nat
 | []=>none
 | p::r=>if isD d p then some 0 else (idxD d r).map (· +1)
def zrb (d:Bys×Bool) (bl:En):Vv:=match bl.find? (isD d) with
 | none=>v0
 | some p=>if d.2 then ⟨p.2.2.s,fun _=>0#32⟩ else ⟨0#32,p.2.2.r⟩
theorem zsy (d:Bys×Bool):∀bl:En,(bl.find? (isD d))=(idxD d bl).bind fun i=>bl[i]?
 | []=>rfl
 | p::r=>by
  rw [List.find?_cons,idxD]
  cases isD d p
  ·simp only [yoy,if_false]
   rw [zsy d r]
   cases idxD d r <;> rfl
  ·rfl
theorem yef (d:Bys×Bool):∀{bl:En} {i:Nat},idxD d bl=some i→i<bl.length
 | [],i,h=>by cases h
 | p::r,i,h=>by
  rw [idxD] at h
  split at h
  ·cases h;simp
  ·cases hr:idxD d r with
   | none=>rw [hr] at h;cases h
   | some k=>rw [hr] at h;cases h;have:=yef d hr;simp;omega
theorem yaw (d:Bys×Bool) (bl:En) {k:Nat} {p:Bys×Bool×Vv} (h:bl[k]?=some p):idxD d (bl.drop k)=if isD d p then some 0 else (idxD d (bl.drop (k+1))).map (· +1):=by
 obtain ⟨hk,rfl⟩:=yoq.1 h
 rw [ypo hk,idxD]
set_option maxHeartbeats 4000000 in
theorem yhk (d:Bys×Bool) (p:Bys×Bool×Vv) {h:Heap} {c:Nat} (hc:h[c]?=some (.cells (zw d) 0 false)):DF FF gj [agg (wo p.1 p.2.1 p.2.2),pt c] h=some (.bool (isD d p),h):=by
 refine ye zi6 ?_
 have rc:∀L j,Heap.read1 (h++L) ⟨c,j,some 0⟩=(zw d)[j]?:=fun L j=>zr (zm L hc)
 cases hn:p.1==d.1
 ·simp only [zba,zi,zb,yor,yos,zg,ze,yf,fh,bd_0,zg,rc,zw,hn,pkA,pkB]
  rw [zhk _ _ _ _ _ rfl]
  simp only [isD,hn];rfl
 ·simp only [zba,zi,zb,yor,yos,ypa,yz,zda,zg,ze,yf,fh,bd_0,bd_1,zg,rc,zw,hn,zda,pkA,pkB]
  rw [zhk _ _ _ _ _ rfl]
  simp only [isD,hn,yp2]
  first | rfl | (simp;done) | skip
set_option maxHeartbeats 4000000 in
theorem ykf (d:Bys×Bool) (bl:En) {h:Heap} {s:Value} {c:Nat} (hs:Sl h s 35 (zaz bl)) (hl:bl.length<4611686018427387904) (hc:h[c]?=some (.cells (zw d) 0 false)):
  DF FF vj [s,.func (.func gj) [].toArray [pt c].toArray] h=some (.int .i64 (match idxD d bl with | some i=>(i:Int) | none=> -1),h):=by
 refine ye zam ?_
 have lens:∀K,lenO K s=some (.int .i64 (bl.length:Int),K):=fun K=>by rw [hs.len];simp [zaz]
 simp only [j3,yor,yos,lens,pkA,pkB]
 refine gg bl.length (fun k st=>(∃j:Nat→Value,st=⟨[s,.func (.func gj) [].toArray [pt c].toArray,j 2,j 3,j 4,j 5,j 6,.int .i64 (bl.length:Int),.int .i64 (k:Int),j 9,j 10,j 11,j 12,j 13,j 14,j 15,j 16,j 17,j 18],h⟩)∧idxD d bl=(idxD d (bl.drop k)).map (· +k)) ?_ ?_ _ ⟨junk rfl,by rw [List.drop_zero];cases idxD d bl <;> rfl⟩
 ·rintro k st hk ⟨⟨j,rfl⟩,e⟩
  obtain ⟨b',o,v,a1,a2⟩:=hs.atH (k:=k) (by simpa [zaz] using hk)
  have h1:((k:Int)<(bl.length:Int))=True:=by simp;omega
  have hb:bl[k]?=some bl[k]:=yow hk
  have a3:Heap.read h ⟨b',o,some v⟩ 35=some (wo bl[k].1 bl[k].2.1 bl[k].2.2):=by rw [a2];simp [zaz]
  have q1:=yhk d bl[k] hc
  rw [yaw d bl hb] at e
  cases hi:isD d bl[k]
  ·rw [hi] at q1 e
   simp only [zb,zc,h1,a1,a3,pm,qi,q1,zs (k:=k) (by omega),pkA,pkB]
   refine ⟨junk rfl,?_⟩
   rw [e]
   simp only [yoy,if_false,Option.map_map]
   congr 1
   funext x
   simp only [Function.comp_def];omega
  ·rw [hi] at q1 e
   simp only [zb,wt,h1,a1,a3,pm,qi,q1,pkA,pkB]
   rw [e]
   simp
   done
 ·rintro st ⟨⟨j,rfl⟩,e⟩
  have h1:((bl.length:Int)<(bl.length:Int))=False:=by simp
  simp only [zb,zq,h1,pkA]
  rw [e,yp5]
  simp [idxD]
  done
theorem yhf {h:Heap} {b o n:Nat} {v:Option Nat} {l:List Value} (e:h.read ⟨b,o,v⟩ n=some l) {i m:Nat} (hi:i+m≤n):h.read ⟨b,o+i,v⟩ m=some ((l.drop i).take m):=by
 unfold Heap.read at e ⊢
 simp only at e ⊢
 cases hb:h[b]? with
 | none=>rw [hb] at e;cases e
 | some x=>
  rw [hb] at e
  cases x with
  | cells c w ro=>
   simp only at e ⊢
   split at e
   ·rename_i hc
    rw [if_pos ⟨hc.1,by omega⟩]
    cases e
    congr 1
    rw [List.drop_take,List.drop_drop,List.take_take,Nat.min_eq_left (by omega)]
   ·cases e
  | map es=>cases e
  | gone=>cases e
theorem v0_s:v0.s=0#32:=rfl
theorem v0_r:v0.r=fun _=>0#32:=rfl
def begE (known:Kn) (bl:En) (k:Nat):En:=(known.take k).foldl (fun en d=>setE d.1 d.2 (zrb d bl) en) []
structure BgS (h:Heap) (u:U) (known:Kn) (bl:En) (k:Nat) (K:Heap):Prop where
 w:Wd K (h.length+1) h.length u (begE known bl k)
 p:Pre h K
theorem ym6 {h K:Heap} {u:U} {known:Kn} {bl:En} {k:Nat} (e:BgS h u known bl k K) {d:Bys×Bool} (hd:known[k]?=some d) (a:List Value):
  ∃K',updO (K++[.cells a 0 false,.cells (wo d.1 d.2 (zrb d bl)) 0 false]) .str (.map (some h.length)) (str d.1) (agg (wo d.1 d.2 (zrb d bl)))=some (undef,K')∧BgS h u known bl (k+1) K':=by
 refine ⟨_,zqd _ (e.w.more _).hk (yi3 d.1 d.2 (zrb d bl) _),?_,(e.p.more _).set (yoz _) _⟩
 have e2:begE known bl (k+1)=setE d.1 d.2 (zrb d bl) (begE known bl k):=zbo hd _ _
 rw [e2]
 exact (e.w.more _).set _
def BgI (h:Heap) (u:U) (known:Kn) (bl:En) (bs ks:Value) (k:Nat) (st:St):Prop:=∃K,(∃j:Nat→Value,st=⟨[j 0,j 1,bs,j 3,j 4,j 5,j 6,pt (h.length+1),j 8,j 9,j 10,j 11,j 12,j 13,j 14,j 15,j 16,j 17,j 18,ks,.int .i64 (known.length:Int),.int .i64 (k:Int),j 22,j 23,j 24,j 25,j 26,j 27,j 28,j 29,j 30,j 31,j 32,j 33,j 34,j 35,j 36,j 37,j 38,j 39,j 40,j 41,j 42,j 43,j 44,j 45,j 46,j 47,j 48,j 49,j 50,j 51,j 52,j 53,j 54,j 55,j 56,j 57,j 58,j 59],K⟩)∧BgS h u known bl k K
def BgO (h:Heap) (u:U) (known:Kn) (bl:En) (st:St):Prop:=∃K,(∃j:Nat→Value,st=⟨[j 0,j 1,j 2,j 3,j 4,j 5,j 6,pt (h.length+1),j 8,j 9,j 10,j 11,j 12,j 13,j 14,j 15,j 16,j 17,j 18,j 19,j 20,j 21,j 22,j 23,j 24,j 25,j 26,j 27,j 28,j 29,j 30,j 31,j 32,j 33,j 34,j 35,j 36,j 37,j 38,j 39,j 40,j 41,j 42,j 43,j 44,j 45,j 46,j 47,j 48,j 49,j 50,j 51,j 52,j 53,j 54,j 55,j 56,j 57,j 58,j 59],K⟩)∧BgS h u known bl known.length K
set_option maxHeartbeats 8000000 in
theorem yjq {h:Heap} {mb:Nat} {u:U} {known:Kn} {bl:En} {bs ks ss:Value} (hm:h[mb]?=some (.cells [ks,ss] 0 false)) (hk:Sl h ks 2 (known.map zw)) (hkl:known.length≤10000) (hb:Sl h bs 35 (zaz bl)) (hbl:bl.length<4611686018427387904):
  ∃h',DF FF zar [pt mb,.int .u32 (u.toNat:Int),bs] h=some (pt (h.length+1),h')∧Wd h' (h.length+1) h.length u (begE known bl known.length)∧Pre h h':=by
 have:∃v h',DF FF zar [pt mb,.int .u32 (u.toNat:Int),bs] h=some (v,h')∧(v=pt (h.length+1)∧Wd h' (h.length+1) h.length u (begE known bl known.length)∧Pre h h'):=by
  refine yb zlk ?_
  have rm:∀L j,Heap.read1 (h++L) ⟨mb,j,some 0⟩=([ks,ss]:List Value)[j]?:=fun L j=>zr (zm L hm)
  have lens:∀K,lenO K ks=some (.int .i64 (known.length:Int),K):=fun K=>by rw [hk.len,ypd]
  have fw:yp [.int .u32 0,.map none] [(0,1,.int .u32 (u.toNat:Int)),(1,1,.map (some h.length))]=some [.int .u32 (u.toNat:Int),.map (some h.length)]:=by
   rw [zao _ (by simp),zw7 _ (by simp),po];rfl
  have s0:BgS h u known bl 0 (h++[.map [],.cells [.int .u32 (u.toNat:Int),.map (some h.length)] 0 false]):=⟨⟨by simp,by simp [begE,enE]⟩,⟨_,rfl⟩⟩
  simp only [zfy,zb,yor,yos,zg,ze,zf,zai,zgm,fw,zg,ze,rm,lens,pkA,pkB]
  refine jv 0 known.length (BgI h u known bl bs ks) (BgO h u known bl) ?_ ?_ _ ⟨_,junk rfl,s0⟩ ?_
  ·rintro k st hk' ⟨K,⟨j,rfl⟩,e⟩
   have hd:known[k]?=some known[k]:=yow hk'
   obtain ⟨b',o,v,a1,a2⟩:=(hk.pre e.p).atH (k:=k) (by simpa using hk')
   have a2:Heap.read K ⟨b',o,some v⟩ 2=some (zw known[k]):=by rw [a2];simp
   obtain ⟨d,hdd⟩:∃d,d=known[k]:=⟨_,rfl⟩
   rw [←hdd] at a2 hd
   have h1:((k:Int)<(known.length:Int))=True:=by simp;omega
   have rq:∀L j,Heap.read1 (K++L) ⟨h.length+1,j,some 0⟩=([.int .u32 (u.toNat:Int),.map (some h.length)]:List Value)[j]?:=fun L j=>zr (e.w.more L).hq
   obtain ⟨H1,hH1⟩:∃H1,H1=K++[AObj.cells (zw d) 0 false,AObj.cells (wo d.1 d.2 v0) 0 false]:=⟨_,rfl⟩
   have hb1:Sl H1 bs 35 (zaz bl):=by rw [hH1];exact (hb.pre e.p).more _
   have q1:=ykf d bl (h:=H1) (s:=bs) (c:=K.length) hb1 hbl (by rw [hH1];simp)
   rw [hH1] at q1
   obtain ⟨K',w1,e'⟩:=ym6 e hd (zw d)
   have hp:zrb d bl=match idxD d bl with | none=>v0 | some i=>match bl[i]? with | none=>v0 | some p=>if d.2 then ⟨p.2.2.s,fun _=>0#32⟩ else ⟨0#32,p.2.2.r⟩:=by
    unfold zrb;rw [zsy]
    cases idxD d bl <;> rfl
   cases hi:idxD d bl with
   | none=>
    rw [hi] at q1 hp
    simp only at q1 hp
    rw [hp] at w1
    simp only [zw] at a2 q1 w1
    simp only [zb,ypc,yor,yqd,zc,ym,fh,zk8,ze5,h1,a1,a2,fm,q1,rq,b8,w1,zs (k:=k) (by omega),pkA,pkB]
    exact ⟨K',junk rfl,e'⟩
   | some i=>
    have hlt:=yef d hi
    have hb0:bl[i]?=some bl[i]:=yow hlt
    rw [hi] at q1 hp
    simp only [hb0] at q1 hp
    obtain ⟨b2,o2,v2,r1,r2⟩:=hb1.atH (k:=i) (by simpa [zaz] using hlt)
    have r2:Heap.read H1 ⟨b2,o2,some v2⟩ 35=some (wo bl[i].1 bl[i].2.1 bl[i].2.2):=by rw [r2];simp [zaz]
    have r3:=zb4 r2 (bd_2 bl[i].1 bl[i].2.1 bl[i].2.2)
    have r4:=yhf r2 (i:=3) (m:=32) (by decide)
    rw [ycb] at r4
    rw [hH1] at r3 r4
    have hneg:((i:Int)<0)=False:=by simp
    cases hd2:d.2
    ·rw [hd2] at w1 hp q1 r3 r4 hH1
     rw [hp] at w1
     simp only [zw,hd2,yoy,if_false] at a2 q1 w1 r3 r4
     simp only [zb,ypc,yor,zc,ym,yx,fh,zk8,ze5,ygx,h1,a1,a2,fm,q1,hneg,r1,r4,v0_s,rq,b8,w1,zs (k:=k) (by omega),pkA,pkB]
     exact ⟨K',junk rfl,e'⟩
    ·rw [hd2] at w1 hp q1 r3 r4 hH1
     rw [hp] at w1
     simp only [zw,hd2,if_true] at a2 q1 w1 r3 r4
     simp only [zb,ypc,yor,zc,ym,fh,zk8,ze5,ydj,h1,a1,a2,fm,q1,hneg,r1,r3,v0_r,rq,b8,w1,zs (k:=k) (by omega),pkA,pkB]
     exact ⟨K',junk rfl,e'⟩
  ·rintro st ⟨K,⟨j,rfl⟩,e⟩
   have h1:((known.length:Int)<(known.length:Int))=False:=by simp
   simp only [zb,x8,zq,h1,x8,pkA]
   exact ⟨K,junk rfl,e⟩
  rintro st ⟨K,⟨j,rfl⟩,e⟩
  simp only [zy,jn,pkA]
  exact ⟨trivial,e.w,e.p⟩
 obtain ⟨v,h',hq,rfl,hw,hp⟩:=this
 exact ⟨h',hq,hw,hp⟩
theorem KC.pre {km:Nat} {h K H:Heap} (p:Pre h K) (k:KC km K H) (hk:h.length≤km):Pre h H:=
 Pre.of (yqf p.le k.le) fun b o ho=>k.oth b o (p.kept b o ho) (by have:=zfd ho;omega)
def knAt (kn:Kn) (l:List Stm) (k:Nat):Kn:=(l.take k).foldl (fun kn s=>kn++s.given) kn
def enAt (u:U) (env:En) (l:List Stm) (k:Nat):En:=(l.take k).foldl (doE u) env
theorem zvg:∀{l:List Stm} {kn:Kn} {k:Nat} {s:Stm},zsa kn l→l[k]?=some s→ydg (knAt kn l k) s
 | [],kn,k,s,h,hk=>by simp at hk
 | x::l,kn,0,s,h,hk=>by cases hk;exact h.1
 | x::l,kn,k+1,s,h,hk=>zvg (kn:=kn++x.given) h.2 (by simpa using hk)
theorem yfe {u:U}:∀{l:List Stm} {env:En} {s:Stm} {k:Nat},l[k]?=some s→zin u env (l.drop k)=if yff u env s then zin u (doE u env s) (l.drop (k+1)) else some (yab s):=by
 intro l env s k h
 rw [pv h,zin]
structure HoS (h:Heap) (u:U) (md:Md) (env0:En) (ss:Value) (k:Nat) (K:Heap):Prop where
 w:Wd K (h.length+1) h.length u (enAt u env0 md.l k)
 p:Pre h K
 e:EnI (knAt md.known md.l k) (enAt u env0 md.l k)
theorem yj2 {h:Heap} {u:U} {md:Md} {env0:En} {ss:Value} {k:Nat} {K:Heap} {rows:List (List Value)} {T:Nat→Prop} (hs:Sl h ss 4 rows) (sp:StsP h T rows md.l) (ok:zsa md.known md.l) (e:HoS h u md env0 ss k K) {s:Stm} (hk:md.l[k]?=some s):
  ∃row b' o v K',row.length=4∧row[3]?=some (str (yab s))∧(∀H',rowO H' 4 ss (.int .i64 (k:Int))=some (.pointer (some ⟨b',o,some v⟩),H'))∧Heap.read K ⟨b',o,some v⟩ 4=some row∧
   DF FF qa [pt (h.length+1),agg row] (K++[.cells row 0 false])=some (.bool (yff u (enAt u env0 md.l k) s),K')∧HoS h u md env0 ss (k+1) K'∧K'[K.length]?=some (.cells row 0 false):=by
 obtain ⟨row,Tk,hr,sk,_⟩:=sp.focus hk
 have hlt:=(yoq.1 hr).1
 obtain ⟨b',o,v,a1,a2⟩:=(hs.pre e.p).atH (k:=k) hlt
 have hr':rows[k]=row:=(yoq.1 hr).2
 rw [hr'] at a2
 have h4:row.length=4:=hs.2 row (yp3 hr)
 have h3:row[3]?=some (str (yab s)):=by
  cases s with
  | lets rc gs=>obtain ⟨_,_,_,rfl,_⟩:=sk;rfl
  | chk c x a=>obtain ⟨_,rfl,_⟩:=sk;rfl
 have skK:StP (K++[AObj.cells row 0 false]) Tk row s:=sk.keep fun b o _ ho=>zm _ (e.p.kept b o ho)
 obtain ⟨K',q1,w1,k1⟩:=yly (e.w.more [.cells row 0 false]) skK (zvg ok hk) e.e
 have e1:enAt u env0 md.l (k+1)=doE u (enAt u env0 md.l k) s:=zbo hk _ _
 have e2:knAt md.known md.l (k+1)=knAt md.known md.l k++s.given:=zbo hk _ _
 exact ⟨row,b',o,v,K',h4,h3,a1,a2,q1,⟨by rw [e1];exact w1,KC.pre (e.p.more _) k1 (yoz _),by rw [e1,e2];exact ymy (zvg ok hk) e.e⟩,k1.keep _ _ _ _ (by simp)⟩
theorem yin {h K:Heap} (p:Pre h K) (b:Bool) (w:Bys):AM.finish h (tup [.bool b,str w]) K=h:=by obtain ⟨L,rfl⟩:=p;exact ft h L rfl
def yds:Option Bys→Value
 | none=>tup [.bool true,str []]
 | some w=>tup [.bool false,str w]
def HoI (h:Heap) (u:U) (md:Md) (env0:En) (ss:Value) (k:Nat) (st:St):Prop:=∃K,(∃j:Nat→Value,st=⟨[j 0,j 1,j 2,j 3,j 4,j 5,j 6,j 7,pt (h.length+1),j 9,j 10,j 11,j 12,j 13,j 14,j 15,j 16,j 17,ss,.int .i64 (md.l.length:Int),.int .i64 (k:Int),j 21,j 22,j 23,j 24,j 25,j 26,j 27,j 28,j 29,j 30],K⟩)∧HoS h u md env0 ss k K∧zin u env0 md.l=zin u (enAt u env0 md.l k) (md.l.drop k)
theorem zy0 {known:Kn} {bl:En}:∀k,k≤known.length→(known.map (·.1)).Nodup→KdOk (known.take k) (begE known bl k)∧S0 (begE known bl k):=by
 intro k
 induction k with
 | zero=>intro _ _;exact ⟨fun w=>rfl,fun w v h=>by simp [begE,p8] at h⟩
 | succ k ih=>
  intro hk hn
  obtain ⟨a,z⟩:=ih (by omega) hn
  have hd:known[k]?=some known[k]:=yow (by omega)
  have e:begE known bl (k+1)=setE known[k].1 known[k].2 (zrb known[k] bl) (begE known bl k):=zbo hd _ _
  rw [e,List.take_add_one,hd]
  simp only [Option.toList_some]
  have hnew:wn (known.take k) known[k].1=none:=by
   rw [zh7,Option.map_eq_none_iff,List.find?_eq_none]
   intro p hp he
   have he:known[k].1=p.1:=eq_of_beq he
   obtain ⟨i,hi,hip⟩:=List.getElem_of_mem hp
   rw [List.getElem_take] at hip
   have hik:i<k:=by simp at hi;omega
   have:=(List.nodup_iff_pairwise_ne.1 hn)
   rw [List.pairwise_iff_getElem] at this
   have:=this i k (by simp;omega) (by simp;omega) hik
   simp only [List.getElem_map] at this
   rw [hip] at this
   exact this he.symm
  refine ⟨fun w=> ?_,fun w v h=> ?_⟩
  ·rw [zag,fi]
   by_cases hw:w=known[k].1
   ·subst hw
    rw [if_pos (by simp),hnew];simp [wn]
   ·rw [if_neg (by simpa using hw),a w]
    have:wn [known[k]] w=none:=by rw [wn,if_neg (by simpa using hw)];rfl
    rw [this,Option.or_none]
  ·rw [zag] at h
   by_cases hw:w=known[k].1
   ·rw [if_pos (by simpa using hw)] at h
    simp only [yot,yo2] at h
    obtain ⟨h1,rfl⟩:=h
    unfold zrb
    split
    ·rfl
    ·rw [h1];rfl
   ·rw [if_neg (by simpa using hw)] at h;exact z w v h
theorem zhw:∀(ns kn:Kn),(kn.map (·.1)).Nodup→((fg kn ns).map (·.1)).Nodup
 | [],kn,h=>by rw [fg];exact h
 | d::r,kn,h=>by
  rw [fg]
  split
  ·exact zhw r kn h
  ·rename_i hd
   refine zhw r _ ?_
   rw [yp8,List.map_singleton]
   refine List.nodup_append.2 ⟨h,by simp,fun a ha b hb=> ?_⟩
   simp at hb
   subst hb
   rintro rfl
   obtain ⟨p,hp,he⟩:=List.mem_map.1 ha
   apply hd
   rw [zh7,Option.isSome_map,List.find?_isSome]
   exact ⟨p,hp,by simp [he]⟩
structure MdOk (md:Md):Prop where
 nd:(md.known.map (·.1)).Nodup
 ok:zsa md.known md.l
def env0 (md:Md) (bl:En):En:=begE md.known bl md.known.length
theorem yju {md:Md} (ok:MdOk md) (bl:En):EnI md.known (env0 md bl):=by
 obtain ⟨a,z⟩:=zy0 (bl:=bl) md.known.length (yoz _) ok.nd
 rw [ypq] at a
 exact ⟨a,z⟩
set_option maxHeartbeats 4000000 in
theorem zon {h:Heap} {S:Nat→Prop} {mb:Nat} {md:Md} {u:U} {bl:En} {bs:Value} (M:ModP h S mb md) (ok:MdOk md) (hb:Sl h bs 35 (zaz bl)) (hbl:bl.length<4611686018427387904):
  DF FF bj [pt mb,.int .u32 (u.toNat:Int),bs] h=some (yds (zin u (env0 md bl) md.l),h):=by
 obtain ⟨⟨ks,ss,rows,T,hm,hk,hs,sp,_⟩,_,hlen⟩:=M
 have:∃v h',DF FF bj [pt mb,.int .u32 (u.toNat:Int),bs] h=some (v,h')∧(v=yds (zin u (env0 md bl) md.l)∧h'=h):=by
  refine yb zle ?_
  obtain ⟨H,q0,w0,p0⟩:=yjq (u:=u) hm hk hlen.2.1 hb hbl
  have lens:∀K,lenO K ss=some (.int .i64 (md.l.length:Int),K):=fun K=>by rw [hs.len,(sp.len).1]
  have rm:∀j,Heap.read1 H ⟨mb,j,some 0⟩=([ks,ss]:List Value)[j]?:=fun j=>zr (p0.kept _ _ hm)
  simp only [zfi,zb,yor,yos,zf,q0,rm,lens,pkA,pkB]
  refine gg md.l.length (HoI h u md (env0 md bl) ss) ?_ ?_ _ ⟨H,junk rfl,⟨w0,p0,yju ok bl⟩,rfl⟩
  ·rintro k st hk' ⟨K,⟨j,rfl⟩,e,he⟩
   have hd:md.l[k]?=some md.l[k]:=yow hk'
   obtain ⟨row,b',o,v,K',h4,h3,a1,a2,q1,e',hrow⟩:=yj2 hs sp ok.ok e hd
   have h1:((k:Int)<(md.l.length:Int))=True:=by simp;omega
   rw [yfe hd] at he
   cases hh:yff u (enAt u (env0 md bl) md.l k) md.l[k]
   ·rw [hh] at q1 he
    have rr:Heap.read1 K' ⟨K.length,3,some 0⟩=some (str (yab md.l[k])):=by rw [zr hrow,h3]
    simp only [zb,yor,gx,wt,h1,a1,a2,h4,q1,rr,yin e'.p,pkA,pkB]
    rw [he]
    exact ⟨rfl,trivial⟩
   ·rw [hh] at q1 he
    simp only [zb,yor,zc,h1,a1,a2,h4,q1,zs (k:=k) (by omega),pkA,pkB]
    have e1:enAt u (env0 md bl) md.l (k+1)=doE u (enAt u (env0 md bl) md.l k) md.l[k]:=zbo hd _ _
    exact ⟨K',junk rfl,e',by rw [he,e1];rfl⟩
  ·rintro st ⟨K,⟨j,rfl⟩,e,he⟩
   have h1:((md.l.length:Int)<(md.l.length:Int))=False:=by simp
   simp only [zb,gx,zq,h1,yin e.p,pkA]
   rw [he,yp5]
   exact ⟨rfl,trivial⟩
 obtain ⟨v,h',hq,rfl,rfl⟩:=this
 exact hq
def znx:Stm→List Bys
 | .lets _ _=>[]
 | .chk _ _ a=>[a]
def jf (l:List Stm):List Bys:=l.flatMap znx
def zbz (l:List Stm):Kn:=l.flatMap Stm.given
theorem yja {h:Heap} {ss:Value} {rows:List (List Value)} {T:Nat→Prop} {l:List Stm} (hs:Sl h ss 4 rows) (sp:StsP h T rows l) {K:Heap} (p:Pre h K) {k:Nat} {s:Stm} (hk:l[k]?=some s):
  ∃row b' o v Tk,row.length=4∧row[3]?=some (str (yab s))∧(∀H',rowO H' 4 ss (.int .i64 (k:Int))=some (.pointer (some ⟨b',o,some v⟩),H'))∧Heap.read K ⟨b',o,some v⟩ 4=some row∧StP h Tk row s:=by
 obtain ⟨row,Tk,hr,sk,_⟩:=sp.focus hk
 have hlt:=(yoq.1 hr).1
 obtain ⟨b',o,v,a1,a2⟩:=(hs.pre p).atH (k:=k) hlt
 have hr':rows[k]=row:=(yoq.1 hr).2
 rw [hr'] at a2
 refine ⟨row,b',o,v,Tk,hs.2 row (yp3 hr),?_,a1,a2,sk⟩
 cases s with
 | lets rc gs=>obtain ⟨_,_,_,rfl,_⟩:=sk;rfl
 | chk c x a=>obtain ⟨_,rfl,_⟩:=sk;rfl
theorem zbn {α β:Type} {l:List α} {k:Nat} {x:α} (h:l[k]?=some x) (f:α→List β):(l.take (k+1)).flatMap f=(l.take k).flatMap f++f x:=by
 rw [List.take_add_one,h,List.flatMap_append];simp
def wRow (w:Bys):List Value:=[str w]
theorem zh8:∀(l:List Stm),(jf l).length≤l.length
 | []=>yoz _
 | s::l=>by
  have:=zh8 l
  unfold jf at this ⊢
  rw [List.flatMap_cons,yo8]
  have h2:(znx s).length≤1:=by cases s <;> simp [znx]
  rw [ypb];omega
def CkI (h:Heap) (l:List Stm) (ss:Value) (k:Nat) (st:St):Prop:=∃K sv,(∃j:Nat→Value,st=⟨[j 0,j 1,j 2,sv,j 4,j 5,j 6,j 7,j 8,ss,.int .i64 (l.length:Int),.int .i64 (k:Int),j 12,j 13,j 14,j 15,j 16,j 17,j 18,j 19,j 20,j 21,j 22,j 23,j 24],K⟩)∧Pre h K∧Own h K sv 1 ((jf (l.take k)).map wRow)
def CkO (h:Heap) (l:List Stm) (st:St):Prop:=∃K sv,(∃j:Nat→Value,st=⟨[j 0,j 1,j 2,sv,j 4,j 5,j 6,j 7,j 8,j 9,j 10,j 11,j 12,j 13,j 14,j 15,j 16,j 17,j 18,j 19,j 20,j 21,j 22,j 23,j 24],K⟩)∧Pre h K∧Own h K sv 1 ((jf l).map wRow)
set_option maxHeartbeats 4000000 in
theorem zl6 {h:Heap} {S:Nat→Prop} {mb:Nat} {md:Md} (M:ModP h S mb md):
  ∃v h',DF FF px [pt mb] h=some (v,h')∧(Own h h' v 1 ((jf md.l).map wRow)∧Pre h h'):=by
 obtain ⟨⟨ks,ss,rows,T,hm,hk,hs,sp,_⟩,_,hlen⟩:=M
 refine yb zki ?_
 have lens:∀K,lenO K ss=some (.int .i64 (md.l.length:Int),K):=fun K=>by rw [hs.len,(sp.len).1]
 have rm:∀j,Heap.read1 h ⟨mb,j,some 0⟩=([ks,ss]:List Value)[j]?:=fun j=>zr hm
 simp only [zey,zb,yos,zf,rm,lens,pkA,pkB]
 refine jv 0 md.l.length (CkI h md.l ss) (CkO h md.l) ?_ ?_ _ ⟨h,_,junk rfl,Pre.refl _,Own.nil _ _ _⟩ ?_
 ·rintro k st hk' ⟨K,sv,⟨j,rfl⟩,p,own⟩
  have hd:md.l[k]?=some md.l[k]:=yow hk'
  obtain ⟨row,b',o,v,Tk,h4,h3,a1,a2,sk⟩:=yja hs sp p hd
  have hl:((k:Int)<(md.l.length:Int))=True:=by simp;omega
  obtain ⟨s,hss⟩:∃s,s=md.l[k]:=⟨_,rfl⟩
  rw [←hss] at sk hd h3
  cases s with
  | lets rc gs=>
   obtain ⟨s,vs,S',rfl,_⟩:=sk
   simp only [zb,yor,yo4,yz,zc,hl,a1,a2,xm,zl,zs (k:=k) (by omega),pkA,pkB]
   exact ⟨_,sv,junk rfl,p.more _,by unfold jf;rw [zbn hd];simpa [znx,jf] using own.more _⟩
  | chk c x a=>
   obtain ⟨v',rfl,t⟩:=sk
   obtain ⟨b,_,_,_,_,rfl,_,_⟩:=t.root
   have hroom:(((jf (md.l.take k)).map wRow).length+1)*16≤wy:=by
    have:=zh8 (md.l.take k)
    rw [ypd]
    have h2:(md.l.take k).length≤k:=by simp;omega
    have:=hlen.1
    unfold wy;omega
   obtain ⟨s',K2,p1,p2,p3,p4,p5,p6⟩:=(own.more [.cells [str (ckS c),nils,pt b,str a] 0 false]).push (p.more _) (row:=wRow a) (bytes:=16) rfl hroom
   rw [yp4,yo8] at p1
   have p1':wu (K++[AObj.cells [str (ckS c),nils,pt b,str a] 0 false,AObj.cells [str a] 0 false]) 1 16 sv (za5 (K++[AObj.cells [str (ckS c),nils,pt b,str a] 0 false,AObj.cells [str a] 0 false]) 1 (.slice (some ⟨K.length+1,0,some 0⟩) 1 1))=some (s',K2):=p1
   simp only [zb,yor,slc,yo4,yz,zc,ym,hl,a1,a2,zj,zl,p1',zs (k:=k) (by omega),pkA,pkB]
   exact ⟨K2,s',junk rfl,p3,by unfold jf;rw [zbn hd,yp8];simpa [znx,jf] using p2⟩
 ·rintro st ⟨K,sv,⟨j,rfl⟩,p,own⟩
  have hl:((md.l.length:Int)<(md.l.length:Int))=False:=by simp
  simp only [zb,x8,zq,hl,x8,pkA]
  rw [ypq] at own
  exact ⟨K,sv,junk rfl,p,own⟩
 rintro st ⟨K,sv,⟨j,rfl⟩,p,own⟩
 simp only [zy,pkA]
 exact own.finish p
theorem zss:∀(l:List Stm),(∀rc gs,Stm.lets rc gs∈l→gs.length≤8192)→(zbz l).length≤l.length*8192
 | [],_=>yoz _
 | s::l,h=>by
  have:=zss l fun rc gs hm=>h rc gs (by simp [hm])
  unfold zbz at this ⊢
  rw [List.flatMap_cons,yo8]
  have h2:s.given.length≤8192:=by
   cases s with
   | lets rc gs=>have:=h rc gs (by simp);simpa [Stm.given,x5] using this
   | chk k x a=>simp [Stm.given]
  rw [ypb];omega
def LtI (h:Heap) (l:List Stm) (ss:Value) (k:Nat) (st:St):Prop:=∃K sv,(∃j:Nat→Value,st=⟨[j 0,j 1,j 2,sv,j 4,j 5,j 6,j 7,j 8,j 9,j 10,ss,.int .i64 (l.length:Int),.int .i64 (k:Int),j 14,j 15,j 16,j 17,j 18,j 19,j 20,j 21,j 22,j 23,j 24,j 25,j 26,j 27,j 28,j 29,j 30,j 31,j 32,j 33,j 34,j 35,j 36,j 37],K⟩)∧Pre h K∧Own h K sv 2 ((zbz (l.take k)).map zw)
def LtO (h:Heap) (l:List Stm) (st:St):Prop:=∃K sv,(∃j:Nat→Value,st=⟨[j 0,j 1,j 2,sv,j 4,j 5,j 6,j 7,j 8,j 9,j 10,j 11,j 12,j 13,j 14,j 15,j 16,j 17,j 18,j 19,j 20,j 21,j 22,j 23,j 24,j 25,j 26,j 27,j 28,j 29,j 30,j 31,j 32,j 33,j 34,j 35,j 36,j 37],K⟩)∧Pre h K∧Own h K sv 2 ((zbz l).map zw)
def LgI (h:Heap) (l:List Stm) (ss:Value) (k:Nat) (gs:List Gv) (s:Value) (i:Nat) (st:St):Prop:=∃K sv,(∃j:Nat→Value,st=⟨[j 0,j 1,j 2,sv,j 4,j 5,j 6,j 7,j 8,j 9,j 10,ss,.int .i64 (l.length:Int),.int .i64 (k:Int),j 14,j 15,j 16,j 17,s,.int .i64 (gs.length:Int),.int .i64 (i:Int),j 21,j 22,j 23,j 24,j 25,j 26,j 27,j 28,j 29,j 30,j 31,j 32,j 33,j 34,j 35,j 36,j 37],K⟩)∧Pre h K∧Own h K sv 2 ((zbz (l.take k)++x5 (gs.take i)).map zw)
def LgO (h:Heap) (l:List Stm) (ss:Value) (k:Nat) (gs:List Gv) (st:St):Prop:=∃K sv,(∃j:Nat→Value,st=⟨[j 0,j 1,j 2,sv,j 4,j 5,j 6,j 7,j 8,j 9,j 10,ss,.int .i64 (l.length:Int),.int .i64 (k:Int),j 14,j 15,j 16,j 17,j 18,j 19,j 20,j 21,j 22,j 23,j 24,j 25,j 26,j 27,j 28,j 29,j 30,j 31,j 32,j 33,j 34,j 35,j 36,j 37],K⟩)∧Pre h K∧Own h K sv 2 ((zbz (l.take k)++x5 gs).map zw)
theorem zyx (d:Bys×Bool):yp [str [],.bool false] [(0,2,agg [str d.1,.bool d.2])]=some [str d.1,.bool d.2]:=by
 rw [yp,zg]
 simp [splice,po]
set_option maxHeartbeats 8000000 in
theorem zo7 {h:Heap} {S:Nat→Prop} {mb:Nat} {md:Md} (M:ModP h S mb md):
  ∃v h',DF FF za8 [pt mb] h=some (v,h')∧(Own h h' v 2 ((zbz md.l).map zw)∧Pre h h'):=by
 obtain ⟨⟨ks,ss,rows,T,hm,hk,hs,sp,_⟩,_,hlen⟩:=M
 refine yb zmi ?_
 have lens:∀K,lenO K ss=some (.int .i64 (md.l.length:Int),K):=fun K=>by rw [hs.len,(sp.len).1]
 have rm:∀j,Heap.read1 h ⟨mb,j,some 0⟩=([ks,ss]:List Value)[j]?:=fun j=>zr hm
 simp only [zg0,zb,yos,zf,rm,lens,pkA,pkB]
 refine jv 0 md.l.length (LtI h md.l ss) (LtO h md.l) ?_ ?_ _ ⟨h,_,junk rfl,Pre.refl _,Own.nil _ _ _⟩ ?_
 ·rintro k st hk' ⟨K,sv,⟨j,rfl⟩,p,own⟩
  have hd:md.l[k]?=some md.l[k]:=yow hk'
  obtain ⟨row,b',o,v,Tk,h4,h3,a1,a2,sk⟩:=yja hs sp p hd
  have hl:((k:Int)<(md.l.length:Int))=True:=by simp;omega
  obtain ⟨s,hss⟩:∃s,s=md.l[k]:=⟨_,rfl⟩
  rw [←hss] at sk hd h3
  have hgl:(zbz (md.l.take k)).length≤k*8192:=by
   have:=zss (md.l.take k) fun rc gs hm=>hlen.2.2 rc gs (yqi hm)
   have h2:(md.l.take k).length=k:=by simp;omega
   rwa [h2] at this
  have hk8:=hlen.1
  cases s with
  | chk c x a=>
   obtain ⟨v',rfl,t⟩:=sk
   simp only [zb,yor,yqd,zc,hl,a1,a2,zgf,zb1,zs (k:=k) (by omega),pkA,pkB]
   exact ⟨_,sv,junk rfl,p.more _,by unfold zbz;rw [zbn hd];simpa [Stm.given,zbz] using own.more _⟩
  | lets rc gs=>
   obtain ⟨s,vs,S',rfl,hsg,G,_⟩:=sk
   have hg8:gs.length≤8192:=hlen.2.2 rc gs (yp3 hd)
   have lens2:∀K,lenO K s=some (.int .i64 (gs.length:Int),K):=fun K=>by rw [hsg.len,zgy G.len]
   simp only [zb,yor,hl,a1,a2,lens2,pkA,pkB]
   refine jv 2 gs.length (LgI h md.l ss k gs s) (LgO h md.l ss k gs) ?_ ?_ _ ⟨_,sv,junk rfl,p.more _,by simpa [x5] using own.more _⟩ ?_
   ·rintro i st hi ⟨K,sv,⟨j,rfl⟩,p,own⟩
    have hg:gs[i]?=some gs[i]:=yow hi
    obtain ⟨b,S'',b',o,v,a1,a2,t⟩:=yd4 (km:=h.length) hsg G ⟨fun b l n ro hb=>p.kept b _ hb,fun b o hb _=>p.kept b o hb,p.le⟩ hg
    obtain ⟨b0,op,w0,l0,r0,hb0,_,hbo⟩:=t.root
    have hb0:b=b0:=by simpa using hb0
    subst hb0
    have rb:∀L j,Heap.read1 (K++L) ⟨b,j,some 0⟩=(xt op w0 gs[i].e.pl l0 r0 gs[i].e.set)[j]?:=fun L j=>zr (zm L hbo)
    have h1:((i:Int)<(gs.length:Int))=True:=by simp;omega
    have hroom:(((zbz (md.l.take k)++x5 (gs.take i)).map zw).length+1)*24≤wy:=by
     rw [ypd,yo8]
     have h2:(x5 (gs.take i)).length≤i:=by simp [x5];omega
     unfold wy;omega
    obtain ⟨s',K2,p1,p2,p3,p4,p5,p6⟩:=(own.more [.cells (wv gs[i] (pt b)) 0 false]).push (p.more _) (row:=zw (gs[i].name,gs[i].e.set)) (bytes:=24) rfl hroom
    rw [yp4,yo8] at p1
    have p1':wu (K++[AObj.cells (wv gs[i] (pt b)) 0 false,AObj.cells [str gs[i].name,.bool gs[i].e.set] 0 false]) 2 24 sv (za5 (K++[AObj.cells (wv gs[i] (pt b)) 0 false,AObj.cells [str gs[i].name,.bool gs[i].e.set] 0 false]) 2 (.slice (some ⟨K.length+1,0,some 0⟩) 1 2))=some (s',K2):=p1
    simp only [zb,yor,slc,zc,ym,h1,a1,a2,kf,zha,zgu,rb,zc1,zyx (gs[i].name,gs[i].e.set),p1',zs (k:=i) (by omega),pkA,pkB]
    refine ⟨K2,s',junk rfl,p3,?_⟩
    have e:x5 (gs.take (i+1))=x5 (gs.take i)++[(gs[i].name,gs[i].e.set)]:=zxf hg _
    rw [e,←yp4,yp8]
    exact p2
   ·rintro st ⟨K,sv,⟨j,rfl⟩,p,own⟩
    have h1:((gs.length:Int)<(gs.length:Int))=False:=by simp
    simp only [zb,x8,zq,h1,x8,pkA]
    rw [ypq] at own
    exact ⟨K,sv,junk rfl,p,own⟩
   rintro st ⟨K,sv,⟨j,rfl⟩,p,own⟩
   simp only [zb,zc,zs (k:=k) (by omega),pkA]
   exact ⟨K,sv,junk rfl,p,by unfold zbz;rw [zbn hd];exact own⟩
 ·rintro st ⟨K,sv,⟨j,rfl⟩,p,own⟩
  have hl:((md.l.length:Int)<(md.l.length:Int))=False:=by simp
  simp only [zb,x8,zq,hl,x8,pkA]
  rw [ypq] at own
  exact ⟨K,sv,junk rfl,p,own⟩
 rintro st ⟨K,sv,⟨j,rfl⟩,p,own⟩
 simp only [zy,pkA]
 exact own.finish p
theorem zqa {e:Nat}:∀{k:Nat} {ts r:List Tok} {l:List Stm},jw e k ts=.ok l r→∀rc gs,Stm.lets rc gs∈l→gs.length≤ts.length
 | 0,ts,r,l,h,rc,gs,hm=>by rw [jw] at h;cases h;cases hm
 | k+1,[],r,l,h,rc,gs,hm=>by rw [jw] at h;cases h;cases hm
 | k+1,t::ts,r,l,h,rc,gs,hm=>by
  rw [jw] at h
  split at h
  ·cases h
  ·rename_i s r1 hs
   split at h
   ·cases h
   ·rename_i l2 r2 hl
    cases h
    have q:=zf3 hs
    rcases ypx.1 hm with hm | hm
    ·have:=q.2 rc gs hm.symm;simp only [ypb];omega
    ·have:=zqa hl rc gs hm;simp only [ypb];omega
theorem zqr {text:Bys} {names:Kn} {md:Md} (h:pg text names=.ok md):MdOk md∧text.length≤4096∧md.known=fg [] names∧∃ts l,j6 text 0=.ok ts∧zku text.length ts=.ok l []∧chkM (fg [] names) 0 l=.ok md.l:=by
 unfold pg at h
 split at h
 ·cases h
 ·rename_i hn
  split at h
  ·cases h
  ·rename_i ts hs
   split at h
   ·cases h
   ·rename_i l r hl
    split at h
    ·cases h
    ·rename_i l' hk
     cases h
     have g:=znt text.length text 0 ts (yoz _) hs
     have lt:=zn1 ts fun t ht=>(g.1 t ht).2
     have hr:r=[]:=by
      have key:∀(k:Nat) (ts:List Tok) (l:List Stm) (r:List Tok),ts.length≤k→jw text.length k ts=.ok l r→r=[]:=by
       intro k
       induction k with
       | zero=>intro ts l r hk h;rw [jw] at h;cases h;exact ypj (by omega)
       | succ k ih=>
        intro ts l r hk h
        cases ts with
        | nil=>rw [jw] at h;cases h;rfl
        | cons t ts=>
         rw [jw] at h
         split at h
         ·cases h
         ·rename_i s r1 hs1
          split at h
          ·cases h
          ·rename_i l2 r2 hl2
           cases h
           exact ih _ _ _ (by have:=(zf3 hs1).1;simp at hk;omega) hl2
      exact key _ _ _ _ (yoz _) hl
     subst hr
     exact ⟨⟨zhw names [] (by simp),ycr hk fun rc gs hm=>by have:=zqa hl rc gs hm;omega⟩,by omega,rfl,ts,l,hs,hl,hk⟩
def yfv:Bys:=[108,101,116,32,116,32,61,32,114,32,59,32,114,32,97,99,121,99,108,105,99,32,116,32,97,115,32,103,111,111,100]
def nAble:Kn:=[([114],false),([87],true)]
def mdOf:CR Md→Md
 | .ok m=>m
 | .bad _ _=>⟨[],[]⟩
def mAble:Md:=mdOf (pg yfv nAble)
theorem zpy:pg yfv nAble=.ok mAble:=by kernel_rfl
theorem zwz:pg [97,99,121,99,108,105,99,32,87] nAble=.bad 41 8:=by kernel_rfl
def r2 (n:Nat):Nat→U:=fun k=>if k=0 then BitVec.ofNat 32 n else 0#32
def zvv (n:Nat):En:=[([114],false,⟨0#32,r2 n⟩)]
theorem zzl:zin 3#32 (env0 mAble (zvv 2)) mAble.l=none:=by kernel_rfl
theorem zup:zin 3#32 (env0 mAble (zvv 1)) mAble.l=some [103,111,111,100]:=by kernel_rfl
theorem yl9:(relV fun _=>0#32).set 0 (.int .u32 2)=relV (r2 2):=by kernel_rfl
theorem ylz:(relV fun _=>0#32).set 0 (.int .u32 1)=relV (r2 1):=by kernel_rfl
theorem yf0 (w:Bys) (b:Bool) (v:Vv) (r:Nat→U):yp (wo w b v) [(3,32,agg (relV r))]=some (wo w b ⟨v.s,r⟩):=by
 have e:∀(x:Vv),wo w b x=[str w,.bool b,.int .u32 (x.s.toNat:Int)]++relV x.r++[]:=fun x=>by rw [ypl];rfl
 rw [e,zh1 (i:=3) (yx r) rfl (yx _),po,e]
theorem yct (a:Bys) (b:Bool) (v:Vv):yp (wo [] false v0) [(0,35,agg (wo a b v))]=some (wo a b v):=by
 have:=zob (fh [] false v0) (fh a b v)
 simpa [p7] using this
set_option maxHeartbeats 4000000 in
theorem yfg {h:Heap} (g:Gl h):DF FF b4 [] h=some (.bool true,h):=by
 have:∃v h',DF FF b4 [] h=some (v,h')∧(v=.bool true∧h'=h):=by
  refine yb zi3 ?_
  have f1:yp [str [],Value.bool false,str [],Value.bool false] [(0,2,agg [str [114],Value.bool false]),(2,2,agg [str [87],Value.bool true])]=some [str [114],Value.bool false,str [87],Value.bool true]:=by rfl
  obtain ⟨H,hH⟩:∃H,H=h++[AObj.cells [str [114],Value.bool false,str [87],Value.bool true] 0 false]:=⟨_,rfl⟩
  have sl:Sl H (.slice (some ⟨h.length,0,some 0⟩) 2 2) 2 (nAble.map zw):=by
   rw [hH];exact Sl.last (rows:=nAble.map zw) (c:=2) h rfl rfl (by intro r hr;simp only [nAble,ypr,List.map_nil,ypx,List.not_mem_nil,or_false] at hr;rcases hr with rfl | rfl <;> rfl) 0 false
  have p0:Pre h H:=⟨_,hH⟩
  obtain ⟨v1,h1,q1,r1,p1⟩:=zjd yfv nAble _ (g.pre p0) sl (by decide)
  rw [zpy] at r1
  obtain ⟨mb,rfl,M⟩:=r1
  obtain ⟨v2,h2,q2,r2',p2⟩:=zjd [97,99,121,99,108,105,99,32,87] nAble _ ((g.pre p0).pre p1) (sl.pre p1) (by decide)
  rw [zwz] at r2'
  obtain ⟨rfl,rfl,_⟩:=r2'
  have ok:=(zqr zpy).1
  have hb:∀(L:Heap) (n:Nat),Sl (h2++L++[AObj.cells (wo [114] false ⟨0#32,r2 n⟩) 0 false]) (.slice (some ⟨(h2++L).length,0,some 0⟩) 1 35) 35 (zaz (zvv n)):=fun L n=>Sl.last (rows:=[wo [114] false ⟨0#32,r2 n⟩]) (c:=35) _ (by simp) rfl (by intro r hr;rw [ypw] at hr;subst hr;exact fh _ _ _) 0 false
  have w1:=zon (u:=3#32) (bs:=.slice (some ⟨(h2++[]).length,0,some 0⟩) 1 35) (M.keep fun b o _ ho=>zm ([]++[AObj.cells (wo [114] false ⟨0#32,r2 2⟩) 0 false]) ho) ok (by have:=hb [] 2;rwa [yp4] at this) (by simp [zvv]:(zvv _).length<_)
  have w2:=zon (u:=3#32) (bs:=.slice (some ⟨(h2++[AObj.cells (wo [114] false ⟨0#32,r2 2⟩) 0 false]).length,0,some 0⟩) 1 35) (M.keep fun b o _ ho=>zm ([AObj.cells (wo [114] false ⟨0#32,r2 2⟩) 0 false]++[AObj.cells (wo [114] false ⟨0#32,r2 1⟩) 0 false]) ho) ok (by have:=hb [AObj.cells (wo [114] false ⟨0#32,r2 2⟩) 0 false] 1;rwa [yp4] at this) (by simp [zvv]:(zvv _).length<_)
  rw [zzl] at w1
  rw [zup] at w2
  obtain ⟨v3,h3,q3,o3,p3⟩:=zl6 (M.keep fun b o _ ho=>zm ([AObj.cells (wo [114] false ⟨0#32,r2 2⟩) 0 false]++[AObj.cells (wo [114] false ⟨0#32,r2 1⟩) 0 false]) ho)
  obtain ⟨v4,h4,q4,o4,p4⟩:=zo7 (M.keep fun b o _ ho=>p3.kept b o (zm ([AObj.cells (wo [114] false ⟨0#32,r2 2⟩) 0 false]++[AObj.cells (wo [114] false ⟨0#32,r2 1⟩) 0 false]) ho))
  have l3:((((jf mAble.l).map wRow).length:Nat):Int)=1:=by kernel_rfl
  have l4:((((zbz mAble.l).map zw).length:Nat):Int)=1:=by kernel_rfl
  have l3':=fun K=>o3.len K
  have l4':=fun K=>o4.len K
  rw [l3] at l3'
  rw [l4] at l4'
  have e3:((3#32:U).toNat:Int)=3:=by rfl
  simp only [ypl,List.nil_append,yo8,List.length_singleton,List.singleton_append,e3,yds] at w1 w2 q3 q4
  unfold yfv at q1
  simp only [zdp,zi,zb,yor,yos,slc,zy,ypa,yz,zf,yf,yo7,ym,vy,yx,zai,fh,zk8,f1,slc,←hH,q1,q2,yl9,ylz,yf0,v0_s,yct,zj,zl,yov,w1,w2,q3,q4,l3',l4',pkA,pkB]
  have pp:Pre h h4:=(((p0.trans p1).more _).trans p3).trans p4
  obtain ⟨L,rfl⟩:=pp
  exact ⟨trivial,ft h L rfl⟩
 obtain ⟨v,h',q,rfl,rfl⟩:=this
 exact q
def gA:Gv:=⟨[97],30,.name false 34 [114]⟩
def gC:Gv:=⟨[99],58,.un .plus (.name false 62 [115])⟩
section
variable (r s:Nat→U) (u:U)
end
theorem Gl.of {h:Heap} {m:Int} {u:TypeId} (hg:∀(i:Nat) (l:List Value),([[.int .i64 m],[.iface u (.chan (some 0))]]:List (List Value))[i]?=some l→h[i]?=some (AObj.cells l 0 true)):Gl h:=
 ⟨⟨m,hg 0 _ rfl⟩,_,hg 1 _ rfl,rfl⟩
end Go.Proofs.YtljdbheclfaloaaGreatDoor.AM
