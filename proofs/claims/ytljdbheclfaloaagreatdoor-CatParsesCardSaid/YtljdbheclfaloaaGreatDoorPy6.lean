/-
  Part 6.
  Conditions: as each says.
-/
import Derived.Test.YtljdbheclfaloaaGreatDoorPy5
open List renaming getElem?_eq_some_iff→yoq,getElem?_set_ne→you,getElem?_eq_getElem→yow,getElem?_set_self→yox,length_set→yo3,drop_eq_nil_of_le→yo5,length_append→yo8,length_cons→ypb,length_map→ypd,mem_append→ype,length_drop→ypf,eq_nil_of_length_eq_zero→ypj,append_nil→ypl,getElem?_append_right→ypn,drop_eq_getElem_cons→ypo,take_length→ypq,map_cons→ypr,length_take→ypt,mem_cons→ypx,take_of_length_le→ypy,getElem?_take→yp0,append_assoc→yp4,drop_length→yp5,map_append→yp8
open Nat renaming reduceAdd→yor,reduceSub→yos,le_refl→yoz,reduceLT→ypc
open Option.some renaming injEq→yot
open Int renaming cast_ofNat_Int→yov,reduceBNe→yo7,reduceBEq→ypk,reduceLT→yqd
open Bool renaming false_eq_true→yoy,false_ne_true→yo1,bne_true→yo4,bne_false→ypa,and_eq_true→ypi,or_eq_false_iff→ypu,false_or→ypz,true_and→yp2,eq_iff_iff→yp7,or_eq_true→yqa,true_or→yqg
open Ne renaming symm→yps
namespace Go.Proofs.YtljdbheclfaloaaGreatDoor.AM
open Go.RowKit
set_option linter.unusedSimpArgs false
set_option linter.unusedVariables false
set_option maxRecDepth 20000
/-- The document's reader at a word, so deep, with the first error. -/
structure Dd (P:RP) (h:Heap) (i d x a:Nat):Prop where
 hr:h[P.r]?=some (.cells [pt P.c,.int .i64 (x:Int),.int .i64 (a:Int),.int .i64 (P.en:Int),.int .i64 (d:Int)] 0 false)
 hc:h[P.c]?=some (.cells [P.cs,.int .i64 (i:Int)] 0 false)
 sc:Sl h P.cs 4 (P.L.map yd)
 le:i≤P.L.length
section
variable {P:RP} {h:Heap} {i d x a:Nat}
theorem Dd.more (e:Dd P h i d x a) (L:Heap):Dd P (h++L) i d x a:=⟨zm L e.hr,zm L e.hc,e.sc.more L,e.le⟩
theorem Dd.r1 (e:Dd P h i d x a) (L:Heap) (j:Nat):Heap.read1 (h++L) ⟨P.r,j,some 0⟩=([pt P.c,.int .i64 (x:Int),.int .i64 (a:Int),.int .i64 (P.en:Int),.int .i64 (d:Int)]:List Value)[j]?:=zr (zm L e.hr)
theorem Dd.r0 (e:Dd P h i d x a) (j:Nat):Heap.read1 h ⟨P.r,j,some 0⟩=([pt P.c,.int .i64 (x:Int),.int .i64 (a:Int),.int .i64 (P.en:Int),.int .i64 (d:Int)]:List Value)[j]?:=zr e.hr
theorem Dd.c1 (e:Dd P h i d x a) (L:Heap) (j:Nat):Heap.read1 (h++L) ⟨P.c,j,some 0⟩=([P.cs,.int .i64 (i:Int)]:List Value)[j]?:=zr (zm L e.hc)
theorem Dd.c0 (e:Dd P h i d x a) (j:Nat):Heap.read1 h ⟨P.c,j,some 0⟩=([P.cs,.int .i64 (i:Int)]:List Value)[j]?:=zr e.hc
theorem Dd.cl (e:Dd P h i d x a) (K:Heap):lenO K P.cs=some (.int .i64 (P.L.length:Int),K):=by rw [e.sc.len,ypd]
theorem Dd.lr (e:Dd P h i d x a):P.r<h.length:=(yoq.1 e.hr).1
theorem Dd.lc (e:Dd P h i d x a):P.c<h.length:=(yoq.1 e.hc).1
theorem Dd.move {h':Heap} {i' d' x' a':Nat} (e:Dd P h i d x a) (m:Mv P h h')
  (hr:h'[P.r]?=some (.cells [pt P.c,.int .i64 (x':Int),.int .i64 (a':Int),.int .i64 (P.en:Int),.int .i64 (d':Int)] 0 false)) (hc:h'[P.c]?=some (.cells [P.cs,.int .i64 (i':Int)] 0 false)) (hl:i'≤P.L.length):Dd P h' i' d' x' a':=
 ⟨hr,hc,e.sc.keep fun b hb o ho=>m.keep b o ho (by rintro rfl;exact P.cr hb) (by rintro rfl;exact P.cc hb),hl⟩
theorem Dd.setC (e:Dd P h i d x a) {i':Nat} (hl:i'≤P.L.length):Dd P (h.set P.c (.cells [P.cs,.int .i64 (i':Int)] 0 false)) i' d x a∧Mv P h (h.set P.c (.cells [P.cs,.int .i64 (i':Int)] 0 false)):=by
 have m:Mv P h (h.set P.c (.cells [P.cs,.int .i64 (i':Int)] 0 false)):=⟨fun b o ho n1 n2=>by rw [you (yps n2)];exact ho,by simp⟩
 exact ⟨e.move m (by rw [you (yps P.ne)];exact e.hr) (by rw [yox e.lc]) hl,m⟩
theorem Dd.setR (e:Dd P h i d x a) (d' x' a':Nat):Dd P (h.set P.r (.cells [pt P.c,.int .i64 (x':Int),.int .i64 (a':Int),.int .i64 (P.en:Int),.int .i64 (d':Int)] 0 false)) i d' x' a'∧Mv P h (h.set P.r (.cells [pt P.c,.int .i64 (x':Int),.int .i64 (a':Int),.int .i64 (P.en:Int),.int .i64 (d':Int)] 0 false)):=by
 have m:Mv P h (h.set P.r (.cells [pt P.c,.int .i64 (x':Int),.int .i64 (a':Int),.int .i64 (P.en:Int),.int .i64 (d':Int)] 0 false)):=⟨fun b o ho n1 n2=>by rw [you (yps n1)];exact ho,by simp⟩
 exact ⟨e.move m (by rw [yox e.lr]) (by rw [you P.ne];exact e.hc) e.le,m⟩
theorem Dd.wr0 (e:Dd P h i d x a) (j:Nat) (hj:j<5) (y:Value):Heap.write1 h ⟨P.r,j,some 0⟩ y=some (h.set P.r (.cells (([pt P.c,.int .i64 (x:Int),.int .i64 (a:Int),.int .i64 (P.en:Int),.int .i64 (d:Int)]:List Value).set j y) 0 false)):=jo e.hr (by simpa using hj)
theorem Dd.tokc (e:Dd P h i d x a) {k:Nat} (hk:k<P.L.length):∃b o v,(∀H',rowO H' 4 P.cs (.int .i64 (k:Int))=some (.pointer (some ⟨b,o,some v⟩),H'))∧∀L,Heap.read (h++L) ⟨b,o,some v⟩ 4=some (yd (zd P k)):=by
 obtain ⟨b,o,v,h1,h2⟩:=e.sc.at (k:=k) (by simpa using hk)
 refine ⟨b,o,v,h1,fun L=> ?_⟩
 rw [h2 L];simp [zd,yow hk]
theorem Dd.fin {H:Heap} {i' d' x' a':Nat} (e:Dd P h i d x a) (e':Dd P H i' d' x' a') (m:Mv P h H) (v:Value) (hne:i≠i'∨d≠d'∨x≠x'∨a≠a'):AM.finish h v H=H:=by
 rcases j5 h H v with hf | ⟨hf,hk⟩
 ·exact hf
 ·exfalso
  have hg:∀b o,h[b]?=some o→H[b]?=some o:=fun b o hb=>by
   rw [←hk] at hb
   have hlt:=(yoq.1 hb).1
   rw [yp0] at hb
   split at hb
   ·exact hb
   ·cases hb
  have h1:=hg _ _ e.hr
  have h2:=hg _ _ e.hc
  rw [e'.hr] at h1
  rw [e'.hc] at h2
  simp at h1 h2
  omega
theorem Dd.fin2 {H:Heap} {i' d' x' a':Nat} (e:Dd P h i d x a) (e':Dd P H i' d' x' a') (m:Mv P h H) (v:Value):Dd P (AM.finish h v H) i' d' x' a'∧Mv P h (AM.finish h v H):=by
 rcases j5 h H v with hf | ⟨hf,hk⟩
 ·rw [hf];exact ⟨e',m⟩
 ·rw [hf]
  have hg:∀b o,b<h.length→H[b]?=some o→h[b]?=some o:=fun b o hb ho=>by
   rw [←hk,yp0,if_pos hb];exact ho
  exact ⟨⟨hg _ _ e.lr e'.hr,hg _ _ e.lc e'.hc,e.sc,e'.le⟩,Mv.refl P h⟩
theorem qr (e:Dd P h i d x a):DF FF xf [pt P.c] h=some (tup [agg (yd (zd P i)),.bool (decide (i<P.L.length))],h):=by
 refine ye ze6 ?_
 have hi:=e.le
 by_cases hlt:i<P.L.length
 ·have c1:((P.L.length:Int)≤(i:Int))=False:=by simp;omega
  obtain ⟨b,o,v,q1,q2⟩:=e.tokc hlt
  simp only [fy,zb,yor,yos,qy,j2,zf,zk,e.c1,e.cl,c1,q1,q2,zmy,qy,j2,zmp,hlt,pkA,pkB]
 ·have c1:((P.L.length:Int)≤(i:Int))=True:=by simp;omega
  rw [xx hlt]
  simp only [fy,zb,yor,yos,qy,j2,zf,e.c1,e.cl,c1,zmy,qy,j2,hlt,pkA,pkB]
  have:=zmp h [.cells (yd zir) 0 false] zir false
  unfold zir yd at this
  simp only [yov] at this
  unfold zir yd
  rw [yov,this]
theorem ze9 (e:Dd P h i d x a):∃h',DF FF yi [pt P.c] h=some (tup [agg (yd (zd P i)),.bool (decide (i<P.L.length))],h')∧Dd P h' (if i<P.L.length then i+1 else i) d x a∧Mv P h h':=by
 have hp:=P.len
 have:∃v h',DF FF yi [pt P.c] h=some (v,h')∧(v=tup [agg (yd (zd P i)),.bool (decide (i<P.L.length))]∧Dd P h' (if i<P.L.length then i+1 else i) d x a∧Mv P h h'):=by
  refine yb ze4 ?_
  by_cases hlt:i<P.L.length
  ·obtain ⟨e2,m2⟩:=e.setC (i':=i+1) hlt
   have w1:∀L y,Heap.write1 (h++L) ⟨P.c,1,some 0⟩ y=some ((h.set P.c (.cells [P.cs,y] 0 false))++L):=fun L y=>by
    rw [jo (zm L e.hc) (by simp),List.set_append_left _ _ e.lc];rfl
   have rl:∀L j v,Heap.read1 (h.set P.c (.cells [P.cs,.int .i64 ((i+1:Nat):Int)] 0 false)++L) ⟨h.length,j,v⟩=Heap.read1 L ⟨0,j,v⟩:=fun L j v=>by
    have:=ziz (h.set P.c (.cells [P.cs,.int .i64 ((i+1:Nat):Int)] 0 false)) L j v
    rwa [yo3] at this
   have rl2:∀L k j v n,Heap.read (h.set P.c (.cells [P.cs,.int .i64 ((i+1:Nat):Int)] 0 false)++L) ⟨h.length+k,j,v⟩ n=Heap.read L ⟨k,j,v⟩ n:=fun L k j v n=>by
    have:=zkh (h.set P.c (.cells [P.cs,.int .i64 ((i+1:Nat):Int)] 0 false)) L k j v n
    rwa [yo3] at this
   have wl:∀L j v xs,Heap.write (h.set P.c (.cells [P.cs,.int .i64 ((i+1:Nat):Int)] 0 false)++L) ⟨h.length,j,v⟩ xs=preO (h.set P.c (.cells [P.cs,.int .i64 ((i+1:Nat):Int)] 0 false)) (Heap.write L ⟨0,j,v⟩ xs):=fun L j v xs=>by
    have:=ziu (h.set P.c (.cells [P.cs,.int .i64 ((i+1:Nat):Int)] 0 false)) L j v xs
    rwa [yo3] at this
   have rl3:∀L j v n,Heap.read (h.set P.c (.cells [P.cs,.int .i64 ((i+1:Nat):Int)] 0 false)++L) ⟨h.length,j,v⟩ n=Heap.read L ⟨0,j,v⟩ n:=fun L j v n=>rl2 L 0 j v n
   simp only [fv,zb,yor,yos,zge,qy,j2,zf,zk,qr (e.more _),hlt,e.c1,zs (k:=i) (by omega),w1,rl2,rl3,wl,zge,qy,j2,pkA,pkB]
   refine ⟨trivial,?_⟩
   rw [if_pos trivial]
   exact e.fin2 (e2.more _) (m2.more _) _
  ·rw [if_neg hlt]
   simp only [fv,zb,yor,yos,zge,qy,j2,zf,zk,qr (e.more _),hlt,zge,qy,j2,pkA,pkB]
   exact ⟨trivial,e.fin2 (e.more _) (Mv.add P h _) _⟩
 obtain ⟨v,h',q,rfl,r⟩:=this
 exact ⟨h',q,r⟩
end
section
variable {P:RP} {h:Heap} {i d x a:Nat}
theorem yjp (e:Dd P h i d x a) {s:Value} {m:Bys} (hm:m≠[]) (hs:Sl h s 1 [[str m]]):∃h',DF FF ju [pt P.c,s] h=some (.bool (keyT (zd P i)==m),h')∧Dd P h' (if keyT (zd P i)==m then i+1 else i) d x a∧Mv P h h':=by
 have hp:=P.len
 have hi:=e.le
 have ln:∀K,lenO K s=some (.int .i64 1,K):=fun K=>hs.len K
 have wS:IntKind.i64.wrap ((P.L.length:Int) - (i:Int))=((P.L.length - i:Nat):Int):=ya8 hi (by omega)
 by_cases hlt:i<P.L.length
 ·obtain ⟨b,o,v,q1,q2⟩:=e.tokc hlt
  obtain ⟨b',o',v',p1,p2⟩:=hs.at (k:=0) (by simp)
  have p2':∀L,Heap.read1 (h++L) ⟨b',o',some v'⟩=some (str m):=fun L=>bt (p2 L) rfl
  have p0:Heap.read1 h ⟨b',o',some v'⟩=some (str m):=by have:=p2' [];rwa [ypl] at this
  have q0:Heap.read h ⟨b,o,some v⟩ 4=some (yd (zd P i)):=by have:=q2 [];rwa [ypl] at this
  have c1:(((P.L.length - i:Nat):Int)<1)=False:=by simp;omega
  simp only [yov] at p1
  have w0:IntKind.i64.wrap ((i:Int)+0)=(i:Int):=by rw [zgz (by unfold W;omega)];omega
  have w1:IntKind.i64.wrap ((i:Int)+1)=((i+1:Nat):Int):=zs (by omega)
  obtain ⟨e2,m2⟩:=e.setC (i':=i+1) hlt
  have wc:∀L y,Heap.write1 (h++L) ⟨P.c,1,some 0⟩ y=some ((h.set P.c (.cells [P.cs,y] 0 false))++L):=fun L y=>by
   rw [jo (zm L e.hc) (by simp),List.set_append_left _ _ e.lc];rfl
  cases hk:keyT (zd P i)==m
  ·have hkk:(((zd P i).kind:Int)==2)=true∨(((zd P i).kind:Int)==2)=false∧((zd P i).text !=m)=true:=by
    unfold keyT at hk
    by_cases h2:(zd P i).kind=2
    ·exact .inl (beq_iff_eq.2 (by omega))
    ·rw [if_neg h2] at hk;right;exact ⟨beq_eq_false_iff_ne.2 (by omega),by rw [bne,hk];rfl⟩
   refine ⟨h,?_,by rw [if_neg yo1];exact e,Mv.refl P h⟩
   refine ye fr ?_
   rcases hkk with h2 | ⟨h2,hkk⟩
   ·simp only [v7,zi,zb,yor,yos,yqd,zf,zk,yg,ln,e.cl,wS,c1,zb1,e.c0,w0,q1,q0,h2,pkA,pkB]
    rw [zcv ((Pre.refl h).more _) _ _ _ rfl];simp only [vw,vv,eq_self]
   ·simp only [v7,zi,zb,yor,yos,yqd,zf,zcg,zk,yg,y7,ln,e.cl,wS,c1,zb1,p1,p2',e.c0,w0,q1,q0,hkk,h2,pkA,pkB]
    rw [zcv ((Pre.refl h).more _) _ _ _ rfl];simp only [vw,vv,eq_self]
  ·have h2n:(zd P i).kind≠2:=by
    intro h2;unfold keyT at hk;rw [if_pos h2] at hk;exact hm (by simpa using hk)
   have h2:(((zd P i).kind:Int)==2)=false:=beq_eq_false_iff_ne.2 (by omega)
   have hkk:((zd P i).text !=m)=false:=by unfold keyT at hk;rw [if_neg h2n] at hk;rw [bne,hk];rfl
   have:∃v h',DF FF ju [pt P.c,s] h=some (v,h')∧(v=.bool true∧Dd P h' (i+1) d x a∧Mv P h h'):=by
    refine yb fr ?_
    simp only [v7,zi,zb,yor,yos,zy,yqd,zf,zcg,zk,yg,y7,ln,e.cl,wS,c1,zb1,p1,p2',e.c0,e.c1,w0,w1,q1,q0,hkk,h2,wc,Int.reduceAdd,yqd,IntKind.wrap_i64,Int.reduceMod,Int.reduceSub,pkA,pkB]
    exact ⟨trivial,e.fin2 (e2.more [.cells (yd (zd P i)) 0 false]) (m2.more _) (.bool true)⟩
   obtain ⟨v,h',q,rfl,r⟩:=this
   exact ⟨h',q,by rw [if_pos rfl];exact r⟩
 ·have c1:(((P.L.length - i:Nat):Int)<1)=True:=by simp;omega
  have hk:(keyT (zd P i)==m)=false:=by rw [xx hlt,zbb];simpa using hm
  refine ⟨h,?_,by rw [hk,if_neg yo1];exact e,Mv.refl P h⟩
  refine ye fr ?_
  simp only [v7,zb,yor,yos,zf,ln,e.cl,e.c0,wS,c1,hk,pkA,pkB]
theorem yci (e:Dd P h i d x a) {m:Bys} (hm:m≠[]):∃h',DF FF v8 [pt P.c,str m] h=some (.bool (keyT (zd P i)==m),h')∧Dd P h' (if keyT (zd P i)==m then i+1 else i) d x a∧Mv P h h':=by
 have:∃v h',DF FF v8 [pt P.c,str m] h=some (v,h')∧(v=.bool (keyT (zd P i)==m)∧Dd P h' (if keyT (zd P i)==m then i+1 else i) d x a∧Mv P h h'):=by
  refine yb ze8 ?_
  obtain ⟨s',K,p1,p2,p3,p4,p5,p6⟩:=(Own.nil h h 1).push (Pre.refl h) (row:=[str m]) (bytes:=16) rfl (by unfold wy;decide)
  have eK:Dd P K i d x a:=⟨p3.kept _ _ e.hr,p3.kept _ _ e.hc,e.sc.pre p3,e.le⟩
  have mK:Mv P h K:=⟨fun b o ho _ _=>p3.kept b o ho,p3.le⟩
  obtain ⟨h1,q,r,m1⟩:=yjp eK hm (s:=s') (by simpa using p2.sl)
  simp only [za7,yor,yos,slc,zy,zf,ym,p1,q,zy,pkA,pkB]
  exact ⟨trivial,e.fin2 r (mK.trans m1) _⟩
 obtain ⟨v,h',q,rfl,r⟩:=this
 exact ⟨h',q,r⟩
theorem zeb (e:Dd P h i d 0 a) {m:Bys} (hm:m≠[]):∃h',DF FF z8 [pt P.r,str m] h=some (.bool (keyT (zd P i)==m),h')∧Dd P h' (if keyT (zd P i)==m then i+1 else i) d 0 a∧Mv P h h':=by
 have:∃v h',DF FF z8 [pt P.r,str m] h=some (v,h')∧(v=.bool (keyT (zd P i)==m)∧Dd P h' (if keyT (zd P i)==m then i+1 else i) d 0 a∧Mv P h h'):=by
  refine yb zav ?_
  obtain ⟨h1,q,r,m1⟩:=yci e hm
  simp only [gu,zi,zb,yor,yos,zy,e.r0,yov,q,zy,pkA,pkB]
  exact ⟨trivial,e.fin2 r m1 _⟩
 obtain ⟨v,h',q,rfl,r⟩:=this
 exact ⟨h',q,r⟩
theorem zib (e:Dd P h i d x a) (hx:x≠0) (m:Bys):DF FF z8 [pt P.r,str m] h=some (.bool false,h):=by
 refine ye zav ?_
 have c1:((x:Int)==0)=false:=beq_eq_false_iff_ne.2 (by omega)
 simp only [gu,zi,zb,yor,yos,e.r0,c1,pkA,pkB]
theorem zwc (e:Dd P h i d 0 a) (c p:Nat) (hc:c≠0):∃h',DF FF we [pt P.r,.int .i64 (c:Int),.int .i64 (p:Int)] h=some (tup [],h')∧Dd P h' i d c p∧Mv P h h':=by
 have:∃v h',DF FF we [pt P.r,.int .i64 (c:Int),.int .i64 (p:Int)] h=some (v,h')∧(v=tup []∧Dd P h' i d c p∧Mv P h h'):=by
  refine yb zeh ?_
  obtain ⟨e2,m2⟩:=e.setR d c a
  obtain ⟨e3,m3⟩:=e2.setR d c p
  simp only [zaw,zb,yor,yos,e.r0,e.wr0 1 (by omega),e2.wr0 2 (by omega),zx,yov,pkA,pkB]
  have f:=e.fin e3 (m2.trans m3) (tup []) (.inr (.inr (.inl (yps hc))))
  rw [f]
  exact ⟨trivial,e3,m2.trans m3⟩
 obtain ⟨v,h',q,rfl,r⟩:=this
 exact ⟨h',q,r⟩
theorem ztd (e:Dd P h i d 0 a):∃h',DF FF y6 [pt P.r] h=some (tup [],h')∧Dd P h' i d (k9 P i) (gt P i)∧Mv P h h':=by
 have:∃v h',DF FF y6 [pt P.r] h=some (v,h')∧(v=tup []∧Dd P h' i d (k9 P i) (gt P i)∧Mv P h h'):=by
  refine yb ze2 ?_
  have hi:=e.le
  unfold k9 gt
  by_cases hlt:i<P.L.length
  ·rw [if_pos hlt,if_pos hlt]
   obtain ⟨h',q,r,m⟩:=zwc (e.more [.cells (yd (zd P i)) 0 false]) 22 (zd P i).at_ (by omega)
   simp only [yov] at q
   simp only [fx,zb,yor,yos,zf,zk,zcn,e.r0,qr e,hlt,q,zx,pkA,pkB]
   exact ⟨trivial,e.fin2 r ((Mv.add P h _).trans m) _⟩
  ·rw [if_neg hlt,if_neg hlt]
   obtain ⟨h',q,r,m⟩:=zwc (e.more [.cells (yd (zd P i)) 0 false]) 24 P.en (by omega)
   simp only [yov] at q
   simp only [fx,zb,yor,yos,zf,zk,e.r0,e.r1,qr e,hlt,q,kv,pkA,pkB]
   exact ⟨trivial,e.fin2 r ((Mv.add P h _).trans m) _⟩
 obtain ⟨v,h',q,rfl,r⟩:=this
 exact ⟨h',q,r⟩
theorem zwb (e:Dd P h i d 0 a) {m:Bys} (hm:m≠[]):∃h',DF FF yj [pt P.r,str m] h=some (tup [],h')∧(if keyT (zd P i)==m then Dd P h' (i+1) d 0 a else Dd P h' i d (k9 P i) (gt P i))∧Mv P h h':=by
 have:∃v h',DF FF yj [pt P.r,str m] h=some (v,h')∧(v=tup []∧(if keyT (zd P i)==m then Dd P h' (i+1) d 0 a else Dd P h' i d (k9 P i) (gt P i))∧Mv P h h'):=by
  refine yb zat ?_
  obtain ⟨h1,q,r,m1⟩:=yci e hm
  cases hk:keyT (zd P i)==m
  ·rw [hk] at q r
   rw [if_neg yo1] at r
   obtain ⟨h2,q2,r2,m2⟩:=ztd r
   simp only [jm,zi,zb,yor,yos,e.r0,yov,q,q2,zx,pkA,pkB]
   rw [if_neg yo1]
   exact ⟨trivial,e.fin2 r2 (m1.trans m2) _⟩
  ·rw [hk] at q r
   rw [if_pos rfl] at r
   simp only [jm,zi,zb,yor,yos,e.r0,yov,q,zx,pkA,pkB]
   rw [if_pos trivial]
   exact ⟨trivial,e.fin2 r m1 _⟩
 obtain ⟨v,h',q,rfl,r⟩:=this
 exact ⟨h',q,r⟩
theorem zw8 (e:Dd P h i d x a) (hx:x≠0) (m:Bys):DF FF yj [pt P.r,str m] h=some (tup [],h):=by
 have:∃v h',DF FF yj [pt P.r,str m] h=some (v,h')∧(v=tup []∧h'=h):=by
  refine yb zat ?_
  have c1:((x:Int)==0)=false:=beq_eq_false_iff_ne.2 (by omega)
  simp only [jm,zi,zb,yor,yos,zz,e.r0,c1,zx,zz,pkA,pkB]
  exact ⟨trivial,trivial⟩
 obtain ⟨v,h',q,rfl,rfl⟩:=this
 exact q
theorem zu2 (e:Dd P h i d x a):DF FF xd [pt P.r] h=some (str (keyT (zd P i)),h):=by
 refine ye zee ?_
 by_cases hlt:i<P.L.length
 ·by_cases h2:(zd P i).kind=2
  ·have c1:(((zd P i).kind:Int)==2)=true:=beq_iff_eq.2 (by omega)
   have hk:keyT (zd P i)=[]:=by unfold keyT;rw [if_pos h2]
   simp only [jh,zi,zb,yor,yos,zf,zk,yg,e.r0,qr e,hlt,c1,hk,pkA,pkB]
   rw [zcv ((Pre.refl h).more _) _ _ _ rfl];simp only [vw,vv,eq_self]
  ·have c1:(((zd P i).kind:Int)==2)=false:=beq_eq_false_iff_ne.2 (by omega)
   have hk:keyT (zd P i)=(zd P i).text:=by unfold keyT;rw [if_neg h2]
   simp only [jh,zi,zb,yor,yos,zf,zk,yg,y7,e.r0,qr e,hlt,c1,hk,pkA,pkB]
   rw [zcv ((Pre.refl h).more _) _ _ _ rfl];simp only [vw,vv,eq_self]
 ·have hk:keyT (zd P i)=[]:=by rw [xx hlt];rfl
  simp only [jh,zi,zb,yor,yos,zf,zk,e.r0,qr e,hlt,hk,pkA,pkB]
  rw [zcv ((Pre.refl h).more _) _ _ _ rfl];simp only [vw,vv,eq_self]
end
theorem zfz (w:Bys) (h:Heap):DF FF jp [str w] h=some (.bool (kwL.contains w),h):=by
 refine ye zg5 ?_
 have sl:Sl (h++[.cells [str wLet,str wRec,str wAnd,str bd,str wIrr,str zcx,str wAs] 0 false]) (.slice (some ⟨h.length,0,some 0⟩) 7 1) 1 (kwL.map pd):=Sl.last h (by rfl) (by rfl) (by intro r hr;simp [kwL,pd] at hr;rcases hr with rfl | rfl | rfl | rfl | rfl | rfl | rfl <;> rfl) 0 false
 obtain ⟨H,hH⟩:∃H,H=h++[AObj.cells [str wLet,str wRec,str wAnd,str bd,str wIrr,str zcx,str wAs] 0 false]:=⟨_,rfl⟩
 have p:Pre h H:=⟨_,hH⟩
 rw [←hH] at sl
 unfold wLet wRec wAnd bd wIrr zcx wAs at hH
 have ln:∀K,lenO K (.slice (some ⟨h.length,0,some 0⟩) 7 1)=some (.int .i64 7,K):=fun K=>rfl
 simp only [zcf,ypc,yor,yos,slc,zf,ym,←hH,pkA,pkB]
 refine gg 7 (fun k st=>(∃j:Nat→Value,st=⟨[str w,j 1,j 2,.slice (some ⟨h.length,0,some 0⟩) 7 1,.int .i64 (k:Int),j 5,j 6,j 7,j 8,j 9,j 10,j 11,j 12,j 13,j 14,j 15,j 16,j 17],H⟩)∧(kwL.take k).contains w=false) ?_ ?_ _ ⟨junk rfl,rfl⟩
 ·rintro k st hk ⟨⟨j,rfl⟩,e⟩
  have h1:((k:Int)<7)=True:=by simp;omega
  obtain ⟨b,o,v,a1,a2⟩:=sl.atH (k:=k) (by simpa [kwL] using hk)
  have hkl:k<kwL.length:=by simpa [kwL] using hk
  have hg:kwL[k]?=some kwL[k]:=yow hkl
  have a2:=bt a2 (x:=str kwL[k]) (by simp [pd])
  have tk:(kwL.take (k+1)).contains w=((kwL.take k).contains w || (w==kwL[k])):=by
   rw [List.take_add_one,hg,Option.toList_some,List.contains_append,List.contains_cons];simp only [List.contains_nil,Bool.or_false]
  cases hw:kwL[k]==w
  ·have hw':(w==kwL[k])=false:=by rw [Bool.eq_false_iff] at *;intro h';exact hw (by simpa using (by simpa using h':w=kwL[k]).symm)
   simp only [zb,zc,yf,ln,h1,a1,a2,hw,zs (k:=k) (by omega),pkA]
   exact ⟨junk rfl,by rw [tk,e,hw'];rfl⟩
  ·have hc:kwL.contains w=true:=by
    have:kwL[k]=w:=eq_of_beq hw
    rw [←this];simp
   simp only [zb,wt,yf,ln,h1,a1,a2,hw,hc,pkA]
   rw [zcv p _ _ _ rfl];simp only [vw,vv,eq_self]
 ·rintro st ⟨⟨j,rfl⟩,e⟩
  have h1:((7:Nat):Int)=7:=rfl
  have hc:kwL.contains w=false:=by have:=e;rwa [show kwL.take 7=kwL from rfl] at this
  simp only [zb,yqd,zq,ln,h1,yqd,hc,pkA]
  rw [zcv p _ _ _ rfl];simp only [vw,vv,eq_self]
def xe (k:Nat) (w:Bys) (at_ own:Nat) (l r:Value) (s:Bool):List Value:=[.int .i64 (k:Int),str w,.int .i64 (at_:Int),.int .i64 (own:Int),l,r,.bool s]
theorem ykj (k:Nat) (w:Bys) (a o:Nat) (l r:Value) (s:Bool):(xe k w a o l r s)[0]?=some (.int .i64 (k:Int)):=rfl
theorem znv (k:Nat) (w:Bys) (a o:Nat) (l r:Value) (s:Bool):(xe k w a o l r s)[1]?=some (str w):=rfl
theorem ko (k:Nat) (w:Bys) (a o:Nat) (l r:Value) (s:Bool):(xe k w a o l r s)[2]?=some (.int .i64 (a:Int)):=rfl
theorem zwa (k:Nat) (w:Bys) (a o:Nat) (l r:Value) (s:Bool):(xe k w a o l r s)[3]?=some (.int .i64 (o:Int)):=rfl
theorem xr (k:Nat) (w:Bys) (a o:Nat) (l r:Value) (s:Bool):(xe k w a o l r s)[4]?=some l:=rfl
theorem xp (k:Nat) (w:Bys) (a o:Nat) (l r:Value) (s:Bool):(xe k w a o l r s)[5]?=some r:=rfl
theorem wx (k:Nat) (w:Bys) (a o:Nat) (l r:Value) (s:Bool):(xe k w a o l r s)[6]?=some (.bool s):=rfl
theorem zdo (k:Nat) (w:Bys) (a o:Nat) (l r:Value) (s:Bool):(xe k w a o l r s).length=7:=by simp [xe]
theorem zlu (k:Nat) (w:Bys) (a o p:Nat) (l r:Value) (s:Bool):(xe k w a o l r s).set 2 (.int .i64 (p:Int))=xe k w p o l r s:=rfl
theorem zys (k:Nat) (h:Heap):DF FF xh [.int .i64 (k:Int),nilP] h=some (nilP,h):=by
 refine ye zei ?_
 simp only [zca,yor,yos,ypa,yz,zf,xm,zl,pkA,pkB]
theorem ycu (k:Nat) {h:Heap} {b k' a o:Nat} {w:Bys} {l r:Value} {s:Bool} (hb:h[b]?=some (.cells (xe k' w a o l r s) 0 false)):DF FF xh [.int .i64 (k:Int),pt b] h=some (pt h.length,h++[.cells (xe k [] a 0 (pt b) nilP false) 0 false]):=by
 have:∃v h',DF FF xh [.int .i64 (k:Int),pt b] h=some (v,h')∧(v=pt h.length∧h'=h++[.cells (xe k [] a 0 (pt b) nilP false) 0 false]):=by
  refine yb zei ?_
  have rb:∀j,Heap.read1 h ⟨b,j,some 0⟩=(xe k' w a o l r s)[j]?:=fun j=>zr hb
  have hf:yp [.int .i64 0,str [],.int .i64 0,.int .i64 0,.pointer none,.pointer none,.bool false] [(0,1,.int .i64 (k:Int)),(2,1,.int .i64 (a:Int)),(4,1,pt b)]=some (xe k [] a 0 (pt b) nilP false):=by
   rw [zao _ (by simp),zao _ (by simp),jk _ (by simp),po];rfl
  simp only [zca,zb,yor,yos,zy,ypa,yz,zg,ze,zf,zj,zl,rb,ko,hf,zg,ze,zy,jn,zdo,pkA,pkB]
  exact ⟨trivial,trivial⟩
 obtain ⟨v,h',q,rfl,rfl⟩:=this
 exact q
theorem yh7 (k:Nat) (y:Value) (h:Heap):DF FF xg [.int .i64 (k:Int),nilP,y] h=some (nilP,h):=by
 refine ye zbw ?_
 simp only [pz,zi,yor,yos,ypa,yz,zf,xm,zl,pkA,pkB]
theorem ybf (k:Nat) (b:Nat) (h:Heap):DF FF xg [.int .i64 (k:Int),pt b,nilP] h=some (nilP,h):=by
 refine ye zbw ?_
 simp only [pz,zi,yor,yos,ypa,yz,zf,xm,zj,zl,pkA,pkB]
theorem ya7 (k:Nat) {h:Heap} {b k' a o c:Nat} {w:Bys} {l r:Value} {s:Bool} (hb:h[b]?=some (.cells (xe k' w a o l r s) 0 false)):DF FF xg [.int .i64 (k:Int),pt b,pt c] h=some (pt h.length,h++[.cells (xe k [] a 0 (pt b) (pt c) false) 0 false]):=by
 have:∃v h',DF FF xg [.int .i64 (k:Int),pt b,pt c] h=some (v,h')∧(v=pt h.length∧h'=h++[.cells (xe k [] a 0 (pt b) (pt c) false) 0 false]):=by
  refine yb zbw ?_
  have rb:∀j,Heap.read1 h ⟨b,j,some 0⟩=(xe k' w a o l r s)[j]?:=fun j=>zr hb
  have hf:yp [.int .i64 0,str [],.int .i64 0,.int .i64 0,.pointer none,.pointer none,.bool false] [(0,1,.int .i64 (k:Int)),(2,1,.int .i64 (a:Int)),(4,1,pt b),(5,1,pt c)]=some (xe k [] a 0 (pt b) (pt c) false):=by
   rw [zao _ (by simp),zao _ (by simp),jk _ (by simp),jk _ (by simp),po];rfl
  simp only [pz,zi,zb,yor,yos,zy,ypa,yz,zg,ze,zf,zj,zl,rb,ko,hf,zg,ze,zy,jn,zdo,pkA,pkB]
  exact ⟨trivial,trivial⟩
 obtain ⟨v,h',q,rfl,rfl⟩:=this
 exact q
section
variable {P:RP} {h:Heap} {i d x a:Nat}
theorem yde (e:Dd P h i d 0 a):∃w p h',DF FF wd [pt P.r] h=some (tup [str w,.int .i64 p],h')∧(if bw (zd P i) then w=(zd P i).text∧p=((zd P i).at_:Int)∧Dd P h' (i+1) d 0 a else Dd P h' i d (k9 P i) (gt P i))∧Mv P h h':=by
 have:∃v h',DF FF wd [pt P.r] h=some (v,h')∧∃w p,(v=tup [str w,.int .i64 p]∧(if bw (zd P i) then w=(zd P i).text∧p=((zd P i).at_:Int)∧Dd P h' (i+1) d 0 a else Dd P h' i d (k9 P i) (gt P i))∧Mv P h h'):=by
  refine yb zeg ?_
  have m0:=Mv.add P h [AObj.cells (yd (zd P i)) 0 false]
  have no:∀(hn:bw (zd P i)=false),∃h1,DF FF y6 [pt P.r] (h++[.cells (yd (zd P i)) 0 false])=some (tup [],h1)∧∀v,(Dd P (AM.finish h v h1) i d (k9 P i) (gt P i)∧Mv P h (AM.finish h v h1)):=fun hn=>by
   obtain ⟨h1,q,r,m1⟩:=ztd (e.more [.cells (yd (zd P i)) 0 false])
   exact ⟨h1,q,fun v=>e.fin2 r (m0.trans m1) v⟩
  cases hn:bw (zd P i)
  ·obtain ⟨h1,q,f⟩:=no hn
   by_cases hlt:i<P.L.length
   ·unfold bw at hn
    cases hk:(((zd P i).kind:Int) !=1)
    ·have hk1:((zd P i).kind==1)=true:=by rw [beq_iff_eq];have:=bne_eq_false_iff_eq.1 hk;omega
     rw [hk1,yp2,Bool.not_eq_false'] at hn
     simp only [vp,zi,zb,yor,yos,gx,zf,yo7,zk,yg,y7,e.r0,e.r1,yov,qr e,hlt,hk,zfz,hn,q,gx,pkA,pkB]
     exact ⟨_,_,rfl,by rw [if_neg yo1];exact (f _).1,(f _).2⟩
    ·simp only [vp,zi,zb,yor,yos,gx,zf,yo7,zk,yg,e.r0,e.r1,yov,qr e,hlt,hk,q,gx,pkA,pkB]
     exact ⟨_,_,rfl,by rw [if_neg yo1];exact (f _).1,(f _).2⟩
   ·simp only [vp,zi,zb,yor,yos,gx,zf,yo7,zk,e.r0,e.r1,yov,qr e,hlt,q,gx,pkA,pkB]
    exact ⟨_,_,rfl,by rw [if_neg yo1];exact (f _).1,(f _).2⟩
  ·have hlt:=zmq P i hn
   obtain ⟨h1,q,r,m1⟩:=ze9 (e.more [.cells (yd (zd P i)) 0 false])
   rw [if_pos hlt] at r
   have hb:(h++[AObj.cells (yd (zd P i)) 0 false])[h.length]?=some (AObj.cells (yd (zd P i)) 0 false):=by simp
   have hb1:=m1.keep h.length _ hb (by have:=e.lr;omega) (by have:=e.lc;omega)
   have hr:∀j,Heap.read1 h1 ⟨h.length,j,some 0⟩=(yd (zd P i))[j]?:=fun j=>zr hb1
   have f:=fun v=>e.fin2 r (m0.trans m1) v
   unfold bw at hn
   rw [ypi,beq_iff_eq,Bool.not_eq_true'] at hn
   have hk:(((zd P i).kind:Int) !=1)=false:=by rw [hn.1];rfl
   simp only [vp,zi,zb,yor,yos,gx,zf,yo7,zk,yg,y7,zcn,e.r0,e.r1,yov,qr e,hlt,hk,zfz,hn.2,q,hr,gx,pkA,pkB]
   exact ⟨_,_,rfl,by rw [if_pos trivial];exact ⟨rfl,rfl,(f _).1⟩,(f _).2⟩
 obtain ⟨v,h',q,w,p,rfl,r⟩:=this
 exact ⟨w,p,h',q,r⟩
end
/-- May a part begin with the word? -/
def begT (t:Tok):Bool:=t.kind==2 || (bw t || (keyT t==[40] || keyT t==[91]))
section
variable {P:RP} {h:Heap} {i d x a:Nat}
theorem zsu (e:Dd P h i d x a):DF FF qp [pt P.r] h=some (.bool (begT (zd P (i+1))),h):=by
 refine ye zdi ?_
 have hp:=P.len
 have w1:IntKind.i64.wrap ((i:Int)+1)=((i+1:Nat):Int):=zs (by have:=e.le;omega)
 have i40:=zp4 P (i+1) (m:=40) (by decide)
 have i91:=zp4 P (i+1) (m:=91) (by decide)
 have k0:∀n:Nat,(((zd P (i+1)).kind:Int)==(n:Int))=((zd P (i+1)).kind==n):=fun n=>by rw [yp7];simp;omega
 have k1:=k0 1;have k2:=k0 2;have k3:=k0 3
 simp only [yov] at k1 k2 k3
 rw [k3] at i40 i91
 unfold begT
 rw [←i40,←i91]
 unfold bw
 by_cases hlt:i+1<P.L.length
 ·have c1:((P.L.length:Int)≤((i+1:Nat):Int))=False:=by simp;omega
  obtain ⟨b,o,v,q1,q2⟩:=e.tokc hlt
  have q0:Heap.read h ⟨b,o,some v⟩ 4=some (yd (zd P (i+1))):=by have:=q2 [];rwa [ypl] at this
  generalize zd P (i+1)=t at*
  cases e2:t.kind==2
  ·cases e1:t.kind==1
   ·cases e3:t.kind==3
    ·simp only [y5,zi,zb,yor,yos,zf,zk,yg,e.r0,e.c0,e.cl,w1,c1,q1,q0,k1,k2,k3,e1,e2,e3,pkA,pkB]
     rw [zcv ((Pre.refl h).more _) _ _ _ rfl];simp only [vw,vv,eq_self]
    ·cases e4:t.text==[40]
     ·simp only [y5,zi,zb,yor,yos,zf,yf,zk,yg,y7,e.r0,e.c0,e.cl,w1,c1,q1,q0,k1,k2,k3,e1,e2,e3,e4,pkA,pkB]
      rw [zcv ((Pre.refl h).more _) _ _ _ rfl];simp only [vw,vv,eq_self]
     ·simp only [y5,zi,zb,yor,yos,zf,yf,zk,yg,y7,e.r0,e.c0,e.cl,w1,c1,q1,q0,k1,k2,k3,e1,e2,e3,e4,pkA,pkB]
      rw [zcv ((Pre.refl h).more _) _ _ _ rfl];simp only [vw,vv,eq_self]
   ·have e3:(t.kind==3)=false:=by have:=eq_of_beq e1;rw [this];rfl
    cases e5:kwL.contains t.text
    ·simp only [y5,zi,zb,yor,yos,zf,zk,yg,y7,e.r0,e.c0,e.cl,w1,c1,q1,q0,k1,k2,e1,e2,e3,zfz,e5,pkA,pkB]
     rw [zcv ((Pre.refl h).more _) _ _ _ rfl];simp only [vw,vv,eq_self]
    ·simp only [y5,zi,zb,yor,yos,zf,zk,yg,y7,e.r0,e.c0,e.cl,w1,c1,q1,q0,k1,k2,k3,e1,e2,e3,zfz,e5,pkA,pkB]
     rw [zcv ((Pre.refl h).more _) _ _ _ rfl];simp only [vw,vv,eq_self]
  ·simp only [y5,zi,zb,yor,yos,zf,zk,yg,e.r0,e.c0,e.cl,w1,c1,q1,q0,k2,e2,pkA,pkB]
   rw [zcv ((Pre.refl h).more _) _ _ _ rfl];simp only [vw,vv,eq_self]
 ·have c1:((P.L.length:Int)≤((i+1:Nat):Int))=True:=by simp;omega
  rw [xx hlt]
  simp only [y5,zb,yos,zf,e.r0,e.c0,e.cl,w1,c1,pkA,pkB]
  rfl
end
def op1D:Op1→Nat
 | .plus=>8
 | .star=>9
 | .maybe=>10
 | .inv=>11
def op2D:Op2→Nat
 | .or=>3
 | .and=>4
 | .minus=>5
 | .seq=>6
 | .cross=>7
def TreeA (h:Heap):(Nat→Prop)→Nat→Nat→Ex→Prop
 | S,b,p,.name s a w=>S b∧h[b]?=some (.cells (xe 1 w p a nilP nilP s) 0 false)
 | S,b,p,.zero a=>S b∧h[b]?=some (.cells (xe 2 [] p 0 nilP nilP false) 0 false)
 | S,b,p,.par _ _ e=>TreeA h S b p e
 | S,b,p,.box _ e=>∃S' c,S b∧h[b]?=some (.cells (xe 12 [] p 0 (pt c) nilP false) 0 false)∧TreeA h S' c e.pl e∧∀y,S' y→S y∧y≠b
 | S,b,p,.un o e=>∃S' c,S b∧h[b]?=some (.cells (xe (op1D o) [] p 0 (pt c) nilP false) 0 false)∧TreeA h S' c e.pl e∧∀y,S' y→S y∧y≠b
 | S,b,p,.bin s o l r=>∃S1 S2 c1 c2,S b∧h[b]?=some (.cells (xe (op2D o) [] p 0 (pt c1) (pt c2) s) 0 false)∧TreeA h S1 c1 l.pl l∧TreeA h S2 c2 r.pl r∧(∀z,S1 z→S z∧z≠b∧¬S2 z)∧∀z,S2 z→S z∧z≠b
theorem TreeA.keep {h h':Heap}:∀{S:Nat→Prop} {b p:Nat} {e:Ex},TreeA h S b p e→(∀b o,S b→h[b]?=some o→h'[b]?=some o)→TreeA h' S b p e
 | S,b,p,.name s a w,t,k=>⟨t.1,k _ _ t.1 t.2⟩
 | S,b,p,.zero a,t,k=>⟨t.1,k _ _ t.1 t.2⟩
 | S,b,p,.par s a e,t,k=>TreeA.keep (e:=e) t k
 | S,b,p,.box a e,t,k=>by obtain ⟨S',c,hb,ho,t',hs⟩:=t;exact ⟨S',c,hb,k b _ hb ho,t'.keep (fun c o hc=>k c o (hs c hc).1),hs⟩
 | S,b,p,.un o' e,t,k=>by obtain ⟨S',c,hb,ho,t',hs⟩:=t;exact ⟨S',c,hb,k b _ hb ho,t'.keep (fun c o hc=>k c o (hs c hc).1),hs⟩
 | S,b,p,.bin s o' l r,t,k=>by
  obtain ⟨S1,S2,c1,c2,hb,ho,t1,t2,h1,h2⟩:=t
  exact ⟨S1,S2,c1,c2,hb,k b _ hb ho,t1.keep (fun c o hc=>k c o (h1 c hc).1),t2.keep (fun c o hc=>k c o (h2 c hc).1),h1,h2⟩
def Ex.fl:Ex→Bool
 | .name s _ _=>s
 | .zero _=>false
 | .par _ _ e=>e.fl
 | .box _ _=>false
 | .un _ _=>false
 | .bin s _ _ _=>s
theorem TreeA.root {h:Heap}:∀{S:Nat→Prop} {b p:Nat} {e:Ex},TreeA h S b p e→∃k w o l r,S b∧h[b]?=some (.cells (xe k w p o l r e.fl) 0 false)
 | S,b,p,.name s a w,t=>⟨_,_,_,_,_,t.1,t.2⟩
 | S,b,p,.zero a,t=>⟨_,_,_,_,_,t.1,t.2⟩
 | S,b,p,.par s a e,t=>TreeA.root (e:=e) t
 | S,b,p,.box a e,t=>by obtain ⟨S',c,hb,ho,t',hs⟩:=t;exact ⟨_,_,_,_,_,hb,ho⟩
 | S,b,p,.un o' e,t=>by obtain ⟨S',c,hb,ho,t',hs⟩:=t;exact ⟨_,_,_,_,_,hb,ho⟩
 | S,b,p,.bin s o' l r,t=>by obtain ⟨S1,S2,c1,c2,hb,ho,t1,t2,h1,h2⟩:=t;exact ⟨_,_,_,_,_,hb,ho⟩
/-- Behind a failure it answers nothing. -/
def zy3 (P:RP) (F:FuncId):Prop:=∀(h:Heap) (i d x a:Nat),Dd P h i d x a→x≠0→DF FF F [pt P.r] h=some (nilP,h)
theorem zlh {x:Nat} (hx:x≠0):((x:Int)==0)=false:=beq_eq_false_iff_ne.2 (by omega)
theorem zhb {x:Nat} (hx:x≠0):((x:Int) !=0)=true:=by rw [bne,zlh hx];rfl
section
variable {P:RP}
theorem yfu:zy3 P yk:=by
 intro h i d x a e hx
 refine ye xq ?_
 simp only [z7,zb,yor,yos,zf,zk,e.r0,e.r1,qr e,zhb hx,pkA,pkB]
 rw [zcv ((Pre.refl h).more _) _ _ _ rfl];simp only [vw,vv,eq_self]
theorem yg1:zy3 P wg:=by
 intro h i d x a e hx
 refine ye zau ?_
 simp only [g8,zb,yos,zf,yfu h i d x a e hx,zb1,e.r0,zlh hx,pkA,pkB]
theorem zuq:zy3 P xu:=by
 intro h i d x a e hx
 refine ye ph ?_
 simp only [xc,zi,zb,yos,zf,yg1 h i d x a e hx,e.r0,zlh hx,pkA,pkB]
theorem yau:zy3 P xj:=by
 intro h i d x a e hx
 refine ye zac ?_
 simp only [gm,yos,zf,zuq h i d x a e hx,zb1,zib e hx,pkA,pkB]
theorem yf7:zy3 P wh:=by
 intro h i d x a e hx
 refine ye zay ?_
 simp only [gy,zb,yos,zf,yau h i d x a e hx,zb1,e.r0,zlh hx,pkA,pkB]
theorem zxy:zy3 P ya:=by
 intro h i d x a e hx
 refine ye zax ?_
 simp only [gw,yos,zf,yf7 h i d x a e hx,zb1,zib e hx,pkA,pkB]
def NV (h:Heap) (v:Value):Prop:=v=nilP∨∃b k w p o l r s,v=pt b∧h[b]?=some (.cells (xe k w p o l r s) 0 false)
theorem NV.mv {h h':Heap} {i d x a:Nat} {v:Value} (e:Dd P h i d x a) (m:Mv P h h') (n:NV h v):NV h' v:=by
 rcases n with rfl | ⟨b,k,w,p,o,l,r,s,rfl,hb⟩
 ·exact .inl rfl
 ·refine .inr ⟨b,k,w,p,o,l,r,s,rfl,m.keep b _ hb ?_ ?_⟩
  ·rintro rfl;have:=e.hr.symm.trans hb;simp [xe] at this
  ·rintro rfl;have:=e.hc.symm.trans hb;simp [xe] at this
theorem NV.tree {h:Heap} {S:Nat→Prop} {b p:Nat} {e:Ex} (t:TreeA h S b p e):NV h (pt b):=by
 obtain ⟨k,w,o,l,r,_,hb⟩:=t.root
 exact .inr ⟨b,k,w,p,o,l,r,_,rfl,hb⟩
def DoneD (P:RP) (h:Heap) (d:Nat) (v:Value) (h':Heap):PR Ex→Prop
 | .ok x r=>∃b S j a,v=pt b∧TreeA h' S b x.pl x∧(∀z,S z→h.length≤z∧z<h'.length)∧r=P.L.drop j∧Dd P h' j d 0 a∧Mv P h h'
 | .bad c p=>c≠0∧NV h' v∧(∃j,Dd P h' j d c p)∧Mv P h h'
def zgq (P:RP) (F:FuncId) (d:Nat) (f:List Tok→PR Ex):Prop:=∀(h:Heap) (i a:Nat),Dd P h i d 0 a→∃v h',DF FF F [pt P.r] h=some (v,h')∧DoneD P h d v h' (f (P.L.drop i))
theorem yic (k:Nat) {h:Heap} {v:Value} (n:NV h v):∃v' h',DF FF xh [.int .i64 (k:Int),v] h=some (v',h')∧NV h' v'∧Pre h h':=by
 rcases n with rfl | ⟨b,k',w,p,o,l,r,s,rfl,hb⟩
 ·exact ⟨_,_,zys k h,.inl rfl,Pre.refl h⟩
 ·exact ⟨_,_,ycu k hb,.inr ⟨h.length,k,[],p,0,pt b,nilP,false,rfl,by simp⟩,⟨_,rfl⟩⟩
theorem zxh (k:Nat) {h:Heap} {v y:Value} (n:NV h v) (m:NV h y):∃v' h',DF FF xg [.int .i64 (k:Int),v,y] h=some (v',h')∧NV h' v'∧Pre h h':=by
 rcases n with rfl | ⟨b,k',w,p,o,l,r,s,rfl,hb⟩
 ·exact ⟨_,_,yh7 k y h,.inl rfl,Pre.refl h⟩
 ·rcases m with rfl | ⟨c,_,_,_,_,_,_,_,rfl,_⟩
  ·exact ⟨_,_,ybf k b h,.inl rfl,Pre.refl h⟩
  ·exact ⟨_,_,ya7 k hb,.inr ⟨h.length,k,[],p,0,pt b,pt c,false,rfl,by simp⟩,⟨_,rfl⟩⟩
theorem Dd.pre {h h':Heap} {i d x a:Nat} (e:Dd P h i d x a) (p:Pre h h'):Dd P h' i d x a∧Mv P h h':=
 ⟨⟨p.kept _ _ e.hr,p.kept _ _ e.hc,e.sc.pre p,e.le⟩,⟨fun b o ho _ _=>p.kept b o ho,p.le⟩⟩
end
def tB:Tok:=⟨3,[40],0,9⟩
def Stm.cnt:Stm→Nat
 | .lets _ gs=>gs.length
 | .chk _ _ _=>1
theorem zzi {e k:Nat} {ts r:List Tok} {gs:List Gv} (h:bo e (k+1) ts=.ok gs r):1≤gs.length:=by
 rw [bo] at h
 split at h
 ·cases h
 ·cases h;simp
 ·split at h
  ·split at h
   ·cases h
   ·cases h;simp
  ·cases h;simp
theorem yat {e:Nat} {ts r:List Tok} {s:Stm} (h:ze1 e ts=.ok s r):1≤s.cnt:=by
 have hl:∀{rc ts},zi8 e rc ts=.ok s r→1≤s.cnt:=fun {rc ts} h=>by
  unfold zi8 at h
  split at h
  ·cases h
  ·rename_i hg;cases h;exact zzi hg
 have hc:∀{k ts},zc7 e k ts=.ok s r→1≤s.cnt:=fun {k ts} h=>by
  unfold zc7 at h
  split at h
  ·cases h
  ·cases h;simp [Stm.cnt]
  ·split at h
   ·split at h
    ·cases h
    ·cases h;simp [Stm.cnt]
   ·cases h;simp [Stm.cnt]
 cases ts with
 | nil=>rw [ze1] at h;cases h
 | cons t ts=>
  rw [ze1] at h
  split at h
  ·cases ts with
   | nil=>rw [letP] at h;exact hl h
   | cons t2 ts=>rw [letP] at h;split at h <;> exact hl h
  split at h
  ·exact hc h
  split at h
  ·exact hc h
  split at h
  ·exact hc h
  ·cases h
theorem zqc {e:Nat}:∀{k:Nat} {ts r:List Tok} {l:List Stm},jw e k ts=.ok l r→∀s∈l,1≤s.cnt
 | 0,ts,r,l,h,s,hs=>by rw [jw] at h;cases h;cases hs
 | k+1,[],r,l,h,s,hs=>by rw [jw] at h;cases h;cases hs
 | k+1,t::ts,r,l,h,s,hs=>by
  rw [jw] at h
  split at h
  ·cases h
  ·rename_i s1 r1 hs1
   split at h
   ·cases h
   ·rename_i l2 r2 hl
    cases h
    rcases ypx.1 hs with rfl | hs
    ·exact yat hs1
    ·exact zqc hl s hs
theorem zd4 {a b:Nat} (h:a+b<2 ^ 63):IntKind.i64.wrap ((a:Int)+(b:Int))=((a+b:Nat):Int):=by
 rw [←Int.natCast_add];exact zkf (by omega)
def MuI (S0:Nat) (H:Heap) (ns bs:Value) (k:Nat) (st:St):Prop:=∃n:Nat,(∃j:Nat→Value,st=⟨[j 0,ns,bs,j 3,j 4,j 5,j 6,.int .i64 (n:Int),.int .i64 (k:Int),j 9,j 10,j 11,j 12,j 13,j 14,j 15,j 16,j 17,j 18,j 19,j 20,j 21,j 22,j 23,j 24,j 25,j 26,j 27,j 28,j 29,j 30,j 31,j 32,j 33,j 34,j 35,j 36,j 37,j 38,j 39,j 40,j 41,j 42,j 43,j 44,j 45,j 46,j 47,j 48,j 49,j 50,j 51,j 52,j 53,j 54,j 55],H⟩)∧S0≤n∧n<2 ^ 60
def MuP (S0:Nat) (H:Heap) (bs:Value) (st:St):Prop:=∃n:Nat,(∃j:Nat→Value,st=⟨[j 0,j 1,bs,j 3,j 4,j 5,j 6,.int .i64 (n:Int),j 8,j 9,j 10,j 11,j 12,j 13,j 14,j 15,j 16,j 17,j 18,j 19,j 20,j 21,j 22,j 23,j 24,j 25,j 26,j 27,j 28,j 29,j 30,j 31,j 32,j 33,j 34,j 35,j 36,j 37,j 38,j 39,j 40,j 41,j 42,j 43,j 44,j 45,j 46,j 47,j 48,j 49,j 50,j 51,j 52,j 53,j 54,j 55],H⟩)∧S0≤n∧n<2 ^ 60
def MuJ (S0:Nat) (H:Heap) (bs:Value) (k:Nat) (st:St):Prop:=∃n:Nat,(∃j:Nat→Value,st=⟨[j 0,j 1,bs,j 3,j 4,j 5,j 6,.int .i64 (n:Int),j 8,.int .i64 (k:Int),j 10,j 11,j 12,j 13,j 14,j 15,j 16,j 17,j 18,j 19,j 20,j 21,j 22,j 23,j 24,j 25,j 26,j 27,j 28,j 29,j 30,j 31,j 32,j 33,j 34,j 35,j 36,j 37,j 38,j 39,j 40,j 41,j 42,j 43,j 44,j 45,j 46,j 47,j 48,j 49,j 50,j 51,j 52,j 53,j 54,j 55],H⟩)∧S0≤n∧n<2 ^ 60
def MuQ (S0:Nat) (H:Heap) (st:St):Prop:=∃n:Nat,(∃j:Nat→Value,st=⟨[j 0,j 1,j 2,j 3,j 4,j 5,j 6,.int .i64 (n:Int),j 8,j 9,j 10,j 11,j 12,j 13,j 14,j 15,j 16,j 17,j 18,j 19,j 20,j 21,j 22,j 23,j 24,j 25,j 26,j 27,j 28,j 29,j 30,j 31,j 32,j 33,j 34,j 35,j 36,j 37,j 38,j 39,j 40,j 41,j 42,j 43,j 44,j 45,j 46,j 47,j 48,j 49,j 50,j 51,j 52,j 53,j 54,j 55],H⟩)∧S0≤n∧n<2 ^ 60
set_option maxHeartbeats 4000000 in
theorem ylv {l:Bys} {names:Kn} {ns:Value} {bl:En} {bs:Value} {h:Heap} (hns:Sl h ns 2 (names.map zw)) (hb:Sl h bs 35 (zaz bl)) (h1:l.length≤2 ^ 50) (h2:names.length≤2 ^ 50) (h3:bl.length≤2 ^ 50) (h4:∀d∈names,d.1.length≤2 ^ 50) (h5:∀p∈bl,p.1.length≤2 ^ 50):
  ∃b,DF FF b7 [str l,ns,bs] h=some (.bool b,h)∧(b=false→l.length+names.length+bl.length≤6000):=by
 have:∃v h',DF FF b7 [str l,ns,bs] h=some (v,h')∧(h'=h∧∃b,v=.bool b∧(b=false→l.length+names.length+bl.length≤6000)):=by
  refine yb zjp ?_
  have ln:∀H,lenO H ns=some (.int .i64 (names.length:Int),H):=fun H=>by rw [hns.len,ypd]
  have lb:∀H,lenO H bs=some (.int .i64 (bl.length:Int),H):=fun H=>by rw [hb.len];simp [zaz]
  obtain ⟨S0,hS0⟩:∃S0,S0=l.length+names.length+bl.length:=⟨_,rfl⟩
  have w1:=zd4 (a:=l.length) (b:=names.length) (by omega)
  have w2:=zd4 (a:=l.length+names.length) (b:=bl.length) (by omega)
  rw [←hS0] at w2 ⊢
  simp only [zdy,zb,yor,yos,zu,zh,zh,ln,lb,w1,w2,pkA,pkB]
  refine jv 0 names.length (MuI S0 h ns bs) (MuP S0 h bs) ?_ ?_ _ ⟨S0,junk rfl,yoz _,by omega⟩ ?_
  ·rintro k st hk ⟨n,⟨j,rfl⟩,e1,e2⟩
   have hkd:names[k]?=some names[k]:=yow hk
   obtain ⟨b',o,v,a1,a2⟩:=hns.atH (k:=k) (by simpa using hk)
   have a3:Heap.read1 h ⟨b',o,some v⟩=some (str names[k].1):=bt a2 (by simp [zw])
   have c1:((k:Int)<(names.length:Int))=True:=by simp;omega
   have hl:=h4 names[k] (List.getElem_mem hk)
   by_cases hn:n≤6000
   ·have c2:((n:Int)≤6000)=True:=by simp;omega
    simp only [zi,zb,zc,zu,zh,ln,c1,c2,a1,a3,zh,zd4 (a:=n) (b:=names[k].1.length) (by omega),zs (k:=k) (by omega),pkA,pkB]
    exact ⟨_,junk rfl,by omega,by omega⟩
   ·have c2:((n:Int)≤6000)=False:=by simp;omega
    simp only [zi,zb,x8,zq,ln,c1,c2,x8,pkA]
    exact ⟨_,junk rfl,e1,e2⟩
  ·rintro st ⟨n,⟨j,rfl⟩,e1,e2⟩
   have c1:((names.length:Int)<(names.length:Int))=False:=by simp
   simp only [zi,zb,x8,zq,ln,c1,x8,pkA]
   exact ⟨_,junk rfl,e1,e2⟩
  rintro st ⟨n,⟨j,rfl⟩,e1,e2⟩
  simp only [pkA]
  refine jv 2 bl.length (MuJ S0 h bs) (MuQ S0 h) ?_ ?_ _ ⟨n,junk rfl,e1,e2⟩ ?_
  ·rintro k st hk ⟨n,⟨j,rfl⟩,e1,e2⟩
   obtain ⟨b',o,v,a1,a2⟩:=hb.atH (k:=k) (by simpa [zaz] using hk)
   have a3:Heap.read1 h ⟨b',o,some v⟩=some (str bl[k].1):=bt a2 (by simp only [zaz,List.getElem_map];rfl)
   have c1:((k:Int)<(bl.length:Int))=True:=by simp;omega
   have hl:=h5 bl[k] (List.getElem_mem hk)
   by_cases hn:n≤6000
   ·have c2:((n:Int)≤6000)=True:=by simp;omega
    simp only [zi,zb,zc,zu,zh,lb,c1,c2,a1,a3,zh,zd4 (a:=n) (b:=bl[k].1.length) (by omega),zs (k:=k) (by omega),pkA,pkB]
    exact ⟨_,junk rfl,by omega,by omega⟩
   ·have c2:((n:Int)≤6000)=False:=by simp;omega
    simp only [zi,zb,x8,zq,lb,c1,c2,x8,pkA]
    exact ⟨_,junk rfl,e1,e2⟩
  ·rintro st ⟨n,⟨j,rfl⟩,e1,e2⟩
   have c1:((bl.length:Int)<(bl.length:Int))=False:=by simp
   simp only [zi,zb,x8,zq,lb,c1,x8,pkA]
   exact ⟨_,junk rfl,e1,e2⟩
  rintro st ⟨n,⟨j,rfl⟩,e1,e2⟩
  simp only [zb,zz,zy,pkA]
  exact ⟨trivial,_,rfl,fun h=>by simp at h;omega⟩
 obtain ⟨v,h',q,rfl,b,rfl,hb⟩:=this
 exact ⟨b,q,hb⟩
/-- What comes of parsing. -/
theorem ybe {text:Bys} {names:Kn} {ns:Value} {h:Heap} (g:Gl h) (hns:Sl h ns 2 (names.map zw)) (hnl:names.length≤10000):
  (∃c a,pg text names=.bad c a∧c≠0∧DF FF zbi [str text,ns] h=some (tup [nilP,.int .i64 (c:Int),.int .i64 (a:Int)],h))∨
  ∃md mb h',pg text names=.ok md∧DF FF zbi [str text,ns] h=some (tup [pt mb,.int .i64 0,.int .i64 0],h')∧ModP h' (fun z=>h.length≤z∧z<h'.length) mb md∧Pre h h'∧MdOk md:=by
 obtain ⟨v,h',q,r,p⟩:=zjd text names ns g hns hnl
 cases hR:pg text names with
 | bad c a=>
  rw [hR] at r
  obtain ⟨rfl,rfl,hc⟩:=r
  exact .inl ⟨c,a,rfl,hc,q⟩
 | ok md=>
  have ok:=(zqr hR).1
  rw [hR] at r
  obtain ⟨mb,rfl,M⟩:=r
  exact .inr ⟨md,mb,h',rfl,q,M,p,ok⟩
theorem zr9 {h:Heap} {u:Value} (ht:Typed h .str u):∃l:Bys,u=str l∧l.length≤2 ^ 50:=by
 cases ht with
 | str s hs=>exact ⟨s.data.toList,by rw [ym1],by unfold reachBytes at hs;rw [Array.length_toList];show s.size≤_;omega⟩
theorem zvl {h:Heap} {u:Value} (ht:ybg h (false,[(.slice 24 [.str,.bool])]) u):∃names:Kn,Sl h u 2 (names.map zw)∧names.length≤2 ^ 50∧∀d∈names,d.1.length≤2 ^ 50:=by
 obtain ⟨rows,h1,h2,h3⟩:=zu6 (by simp) ht
 obtain ⟨names,rfl,hn⟩:=yd8 (p:=fun d:Bys×Bool=>d.1.length≤2 ^ 50) (f:=zw) rows fun r hr=>by
  have t:=h2 r hr
  obtain ⟨a,ha,ta⟩:=zqh t (i:=0) rfl
  obtain ⟨b,hb,tb⟩:=zqh t (i:=1) rfl
  obtain ⟨l,rfl,hl⟩:=zr9 ta
  cases tb with
  | bool b=>
   have hlen:=t.1
   match r,hlen,ha,hb with
   | [x,y],_,ha,hb=>
    cases ha;cases hb
    exact ⟨(l,b),rfl,hl⟩
 refine ⟨names,by simpa using h1,?_,hn⟩
 unfold reachBytes at h3;simp at h3;omega
theorem zoi {c:Nat} {row:List Value} (hr:row.length=c):∀{rows:List (List Value)} {k:Nat},(∀r∈rows,r.length=c)→k<rows.length→splice rows.flatten (k*c) row=(rows.set k row).flatten
 | [],k,_,hk=>by simp at hk
 | r::rows,0,hc,_=>by
  have h1:=hc r (by simp)
  have:=zp6 (a:=[]) (b:=rows.flatten) (x:=r) (y:=row) (by rw [h1,hr])
  simpa using this
 | r::rows,k+1,hc,hk=>by
  have h1:=hc r (by simp)
  have ih:=zoi hr (rows:=rows) (k:=k) (fun q hq=>hc q (by simp [hq])) (by simpa using hk)
  have e:(k+1)*c=r.length+k*c:=by rw [Nat.succ_mul,h1,Nat.add_comm]
  rw [List.set_cons_succ,List.flatten_cons,List.flatten_cons,←ih,e]
  unfold splice
  have e2:r.length+k*c+row.length=r.length+(k*c+row.length):=by omega
  rw [e2]
  have t1:List.take (r.length+k*c) r=r:=ypy (by omega)
  have t2:List.drop (r.length+(k*c+row.length)) r=[]:=yo5 (by omega)
  simp [List.take_append,List.drop_append,t1,t2]
theorem Own.putW {h H:Heap} {s:Value} {c:Nat} {rows:List (List Value)} (e:Own h H s c rows) {k:Nat} (hk:k<rows.length) {row:List Value} (hr:row.length=c):
  ∃b ver H',(∀K,rowO K c s (.int .i64 (k:Int))=some (.pointer (some ⟨b,k*c,some ver⟩),K))∧(∀L,Heap.write (H++L) ⟨b,k*c,some ver⟩ row=some (H'++L))∧
   Own h H' s c (rows.set k row)∧blk s=some b∧H'.length=H.length∧(∀(i:Nat) (o:AObj),i≠b→H[i]?=some o→H'[i]?=some o)∧∃o,H'=H.set b o:=by
 rcases e with ⟨⟨rfl,rfl⟩ | ⟨b,ver,hb,rfl,ho⟩,hc⟩
 ·simp at hk
 ·have hlt:=(yoq.1 ho).1
  have hl:=k8 rows c hc
  have hin:k*c+row.length≤rows.flatten.length:=by rw [hl,hr,←Nat.succ_mul];exact Nat.mul_le_mul_right c hk
  refine ⟨b,ver,H.set b (.cells ((rows.set k row).flatten) ver false),fun K=> ?_,fun L=> ?_,⟨.inr ⟨b,ver,hb,by simp,?_⟩,?_⟩,rfl,by simp,fun i o hi ho'=> ?_,_,rfl⟩
  ·rw [zro K hk];simp
  ·have ho2:(H++L)[b]?=some (.cells rows.flatten ver false):=zm L ho
   simp only [Heap.write,ho2]
   rw [if_pos ⟨trivial,hin⟩,zoi hr hc hk,List.set_append_left _ _ hlt]
  ·rw [yox hlt]
  ·intro r hr'
   rcases List.mem_or_eq_of_mem_set hr' with h | h
   ·exact hc r h
   ·rw [h];exact hr
  ·rw [you (yps hi)];exact ho'
theorem zy7 {l:List UInt8} {a:Nat} (ha:a<l.length):([47,92].isPrefixOf (l.drop a) || [92,47].isPrefixOf (l.drop a))=true→znq l[a]=true:=by
 intro h
 have hd:=zfx ha
 rw [hd] at h
 simp only [List.isPrefixOf,yqa,ypi,beq_iff_eq] at h
 rcases h with ⟨h,_⟩ | ⟨h,_⟩<;> rw [←h]<;> rfl
set_option maxHeartbeats 8000000 in
set_option maxRecDepth 10000 in
theorem zqu (l:List UInt8) (h:Heap):∃v H',DF FF za2 [str l] h=some (v,H')∧(TokR h H' v (zc0 l)∧Pre h H'):=by
 refine yb zij ?_
 by_cases hl:8192<l.length
 ·have c1:((8192:Int)<(l.length:Int))=True:=by simp;omega
  simp only [za3,zb,yos,zz,qt,zf,zu,zh,c1,pkA,pkB]
  unfold zc0;rw [if_pos hl]
  exact ⟨rfl,Pre.refl h⟩
 have c1:((8192:Int)<(l.length:Int))=False:=by simp;omega
 have htv:zc0 l=j6 l 0:=by unfold zc0;rw [if_neg hl]
 rw [htv]
 simp only [za3,zb,yos,zf,zu,zh,c1,pkA,pkB]
 have stop:∀(a:Nat) (acc:List Tok) (H:Heap) (s:Value),a=l.length→Own h H s 4 (acc.map yd)→Pre h H→(j6 (l.drop a) a).pre acc=j6 l 0→TokR h (finish h (tup [s,.int .i64 0,.int .i64 0]) H) (tup [s,.int .i64 0,.int .i64 0]) (j6 l 0)∧Pre h (finish h (tup [s,.int .i64 0,.int .i64 0]) H):=by
  intro a acc H s ha ho hp hs
  subst ha
  rw [yp5,zjy] at hs
  rw [←hs]
  obtain ⟨f1,f2⟩:=ho.fin hp (v:=tup [s,.int .i64 0,.int .i64 0]) yml
  exact ⟨⟨s,rfl,by rw [ypl];exact f1⟩,f2⟩
 refine gg l.length (fun k st=>∃(a:Nat) (acc:List Tok) (H:Heap) (s:Value) (j:Nat→Value),k≤a∧a≤l.length∧acc.length≤a∧Own h H s 4 (acc.map yd)∧Pre h H∧(j6 (l.drop a) a).pre acc=j6 l 0∧st=⟨[str l,j 1,.slice none 0 0,.int .i64 0,.int .i64 0,s,.int .i64 (a:Int),j 7,j 8,j 9,j 10,j 11,j 12,j 13,j 14,j 15,j 16,j 17,j 18,j 19,j 20,j 21,j 22,j 23,j 24,j 25,j 26,j 27,j 28,j 29,j 30,j 31,j 32,j 33,j 34,j 35,j 36,j 37,j 38,j 39,j 40,j 41,j 42,j 43,j 44,j 45,j 46,j 47,j 48,j 49,j 50,j 51,j 52,j 53,j 54,j 55,j 56,j 57,j 58,j 59,j 60,j 61,j 62,j 63,j 64,j 65,j 66,j 67,j 68,j 69,j 70,j 71,j 72,j 73,j 74,j 75,j 76,j 77,j 78,j 79,j 80,j 81,j 82,j 83,j 84,j 85,j 86,j 87,j 88,j 89,j 90,j 91,j 92,j 93,j 94,j 95,j 96,j 97,j 98,j 99,j 100,j 101,j 102,j 103,j 104,j 105,j 106,j 107,j 108,j 109,j 110,j 111],H⟩) ?_ ?_ _ ?_
 ·rintro k st hk ⟨a0,acc,H,s,j,h1,h2,h3,ho,hp,hs,rfl⟩
  obtain ⟨v,H1,hbl,rfl,a,b1,b2,b3⟩:=zm7 l (by omega) a0 h2 H
  rcases b3 with ⟨rfl,hsk,hsc⟩ | ⟨rfl,hsc⟩
  ·rw [hsc] at hs
   by_cases hal:a<l.length
   ·have d1:((l.length:Int)≤(a:Int))=False:=by simp;omega
    have d2:(((a+1:Nat):Int)<(l.length:Int))=(a+1<l.length):=by simp;omega
    have wa:IntKind.i64.wrap ((a:Int)+1)=((a+1:Nat):Int):=zs (k:=a) (by omega)
    have wa2:IntKind.i64.wrap (((a+1:Nat):Int)+1)=((a+2:Nat):Int):=zs (k:=a+1) (by omega)
    have hw:=zxi hal
    have worded:∀(kd k:Nat) (n:Int),zgv (l.drop a)=.word kd k n→1≤k∧a+k≤l.length∧(j6 (l.drop (a+k)) (a+k)).pre (acc++[⟨kd,(l.drop a).take k,n,a⟩])=j6 l 0:=fun kd k n hk=>by
     have:=zfc hk
     simp only [ypf] at this
     exact ⟨this.1,by omega,by rw [zpf hal hsk hk,Res.pre_pre] at hs;exact hs⟩
    have refused:∀c:Nat,zgv (l.drop a)=.bad c→∀K:Heap,Pre h K→TokR h (AM.finish h (tup [.slice none 0 0,.int .i64 (c:Int),.int .i64 (a:Int)]) K) (tup [.slice none 0 0,.int .i64 (c:Int),.int .i64 (a:Int)]) (j6 l 0)∧Pre h (AM.finish h (tup [.slice none 0 0,.int .i64 (c:Int),.int .i64 (a:Int)]) K):=fun c hc K pK=>by
     rw [zsp hal hsk hc] at hs
     rw [←hs]
     exact ⟨rfl,((Own.nil h K 4).fin pK fun _=>rfl).2⟩
    have cw:∀(k:Nat) (K:Heap),a+k≤l.length→cutS K (some (.int .i64 (a:Int))) (some (.int .i64 ((a+k:Nat):Int))) (str l)=some (str ((l.drop a).take k),K):=fun k K hk=>by
     rw [yie K (by omega) hk,Nat.add_sub_cancel_left]
    cases g1:digV (l[a].toNat:Int)
    ·rw [g1] at hw
     simp only [yoy,if_false] at hw
     cases g2:(letV (l[a].toNat:Int) || (l[a].toNat:Int)==95)
     ·rw [g2] at hw
      simp only [yoy,if_false] at hw
      rw [ypu] at g2
      cases g4:znq l[a]
      ·have g3:([47,92].isPrefixOf (l.drop a) || [92,47].isPrefixOf (l.drop a))=false:=by
        rw [←Bool.not_eq_true];intro e;rw [zy7 hal e] at g4;cases g4
       rw [g3,g4] at hw
       simp only [zi,zb,yor,qt,wt,zu,zh,yr,yo7,hbl,d1,xl _ hal,wa,xo,g1,vd,g2.1,g2.2,zci,g4,pkA,pkB]
       exact refused 20 hw _ (hp.more _)
      ·cases g3:([47,92].isPrefixOf (l.drop a) || [92,47].isPrefixOf (l.drop a))
       ·rw [g3,g4] at hw
        obtain ⟨q1,q2,q3⟩:=worded _ _ _ hw
        obtain ⟨s',H',p1,p2,p3,p4⟩:=zen ho hp 3 3 rfl ((l.drop a).take 1) 0 a (by omega)
        have cw1:=fun K=>cw 1 K q2
        by_cases hn:a+1<l.length
        ·rw [zej hn,zej hn] at g3
         have u1:((l[a].toNat:Int)==47)=(l[a].toNat==UInt8.toNat 47):=by
          rw [yp7,beq_iff_eq,beq_iff_eq];show _↔l[a].toNat=47;omega
         have u2:((l[a].toNat:Int)==92)=(l[a].toNat==UInt8.toNat 92):=by
          rw [yp7,beq_iff_eq,beq_iff_eq];show _↔l[a].toNat=92;omega
         have u3:((l[a+1].toNat:Int)==47)=(l[a+1].toNat==UInt8.toNat 47):=by
          rw [yp7,beq_iff_eq,beq_iff_eq];show _↔l[a+1].toNat=47;omega
         have u4:((l[a+1].toNat:Int)==92)=(l[a+1].toNat==UInt8.toNat 92):=by
          rw [yp7,beq_iff_eq,beq_iff_eq];show _↔l[a+1].toNat=92;omega
         rw [←u1,←u2,←u3,←u4] at g3
         have d3:(((a+1:Nat):Int)<(l.length:Int))=True:=by rw [d2];simpa using hn
         cases v1:((l[a].toNat:Int)==47)
         ·cases v2:((l[a].toNat:Int)==92)
          ·simp only [zi,zb,ypc,yor,slc,zc,z6,zu,zh,yr,xk,yo7,hbl,d1,xl _ hal,wa,xo,g1,vd,g2.1,g2.2,zci,g4,d3,v1,v2,ba,cw1,p1,pkA,pkB]
           exact ⟨a+1,_,H',s',(junk rfl).elim fun j hj=>⟨j,by omega,by omega,by simp;omega,p2,p3,q3,hj⟩⟩
          ·rw [v1,v2] at g3
           have v3:((l[a+1].toNat:Int)==47)=false:=by simpa using g3
           simp only [zi,zb,ypc,yor,slc,zc,z6,zu,zh,yr,xk,yo7,hbl,d1,xl _ hal,wa,xo,g1,vd,g2.1,g2.2,zci,g4,d3,xl _ hn,v1,v2,v3,ba,cw1,p1,pkA,pkB]
           exact ⟨a+1,_,H',s',(junk rfl).elim fun j hj=>⟨j,by omega,by omega,by simp;omega,p2,p3,q3,hj⟩⟩
         ·have v2:((l[a].toNat:Int)==92)=false:=by
           rw [beq_iff_eq] at v1;rw [v1];rfl
          rw [v1,v2] at g3
          have v4:((l[a+1].toNat:Int)==92)=false:=by simpa using g3
          simp only [zi,zb,ypc,yor,slc,zc,z6,zu,zh,yr,xk,yo7,hbl,d1,xl _ hal,wa,xo,g1,vd,g2.1,g2.2,zci,g4,d3,xl _ hn,v1,v2,v4,ba,cw1,p1,pkA,pkB]
          exact ⟨a+1,_,H',s',(junk rfl).elim fun j hj=>⟨j,by omega,by omega,by simp;omega,p2,p3,q3,hj⟩⟩
        ·have d3:(((a+1:Nat):Int)<(l.length:Int))=False:=by rw [d2];simpa using hn
         simp only [zi,zb,ypc,yor,slc,zc,z6,zu,zh,yr,xk,yo7,hbl,d1,xl _ hal,wa,xo,g1,vd,g2.1,g2.2,zci,g4,d3,ba,cw1,p1,pkA,pkB]
         exact ⟨a+1,_,H',s',(junk rfl).elim fun j hj=>⟨j,by omega,by omega,by simp;omega,p2,p3,q3,hj⟩⟩
       ·rw [g3] at hw
        obtain ⟨q1,q2,q3⟩:=worded _ _ _ hw
        obtain ⟨s',H',p1,p2,p3,p4⟩:=zen ho hp 3 3 rfl ((l.drop a).take 2) 0 a (by omega)
        have cw1:=fun K=>cw 2 K q2
        have hn:a+1<l.length:=by omega
        rw [zej hn,zej hn] at g3
        have d3:(((a+1:Nat):Int)<(l.length:Int))=True:=by rw [d2];simpa using hn
        have n47:UInt8.toNat 47=47:=rfl
        have n92:UInt8.toNat 92=92:=rfl
        simp only [yqa,ypi,beq_iff_eq,n47,n92] at g3
        rcases g3 with ⟨v1,v2⟩ | ⟨v1,v2⟩
        ·have v1':((l[a].toNat:Int)==47)=true:=by rw [v1];rfl
         have v2':((l[a+1].toNat:Int)==92)=true:=by rw [v2];rfl
         simp only [zi,zb,ypc,yor,slc,zc,z6,zu,zh,yr,xk,yo7,hbl,d1,xl _ hal,wa,xo,g1,vd,g2.1,g2.2,zci,g4,d3,xl _ hn,v1',v2',wa2,ba,cw1,p1,pkA,pkB]
         exact ⟨a+2,_,H',s',(junk rfl).elim fun j hj=>⟨j,by omega,by omega,by simp;omega,p2,p3,q3,hj⟩⟩
        ·have v1':((l[a].toNat:Int)==92)=true:=by rw [v1];rfl
         have v0':((l[a].toNat:Int)==47)=false:=by rw [v1];rfl
         have v2':((l[a+1].toNat:Int)==47)=true:=by rw [v2];rfl
         simp only [zi,zb,ypc,yor,slc,zc,z6,zu,zh,yr,xk,yo7,hbl,d1,xl _ hal,wa,xo,g1,vd,g2.1,g2.2,zci,g4,d3,xl _ hn,v0',v1',v2',wa2,ba,cw1,p1,pkA,pkB]
         exact ⟨a+2,_,H',s',(junk rfl).elim fun j hj=>⟨j,by omega,by omega,by simp;omega,p2,p3,q3,hj⟩⟩
     ·rw [g2] at hw
      simp only [if_true] at hw
      obtain ⟨q1,q2,q3⟩:=worded _ _ _ hw
      have hrun:=zsb l (by omega) a (by omega) true
      simp only [if_true] at hrun
      obtain ⟨s',H',p1,p2,p3,p4⟩:=zen ho hp 1 1 rfl ((l.drop a).take (rowN namB (l.drop a))) 0 a (by omega)
      have cw1:=fun K=>cw (rowN namB (l.drop a)) K q2
      cases g3:letV (l[a].toNat:Int)
      ·rw [g3,ypz] at g2
       simp only [zi,zb,ypc,yor,slc,zc,z6,zu,zh,yr,xk,yo7,hbl,d1,xl _ hal,wa,xo,g1,vd,g3,g2,hrun,ba,cw1,p1,pkA,pkB]
       exact ⟨a+rowN namB (l.drop a),_,H',s',(junk rfl).elim fun j hj=>⟨j,by omega,by omega,by simp;omega,p2,p3,q3,hj⟩⟩
      ·simp only [zi,zb,ypc,yor,slc,zc,z6,zu,zh,yr,xk,yo7,hbl,d1,xl _ hal,wa,xo,g1,vd,g3,hrun,ba,cw1,p1,pkA,pkB]
       exact ⟨a+rowN namB (l.drop a),_,H',s',(junk rfl).elim fun j hj=>⟨j,by omega,by omega,by simp;omega,p2,p3,q3,hj⟩⟩
    ·rw [g1] at hw
     simp only [if_true] at hw
     have hrun:=zsb l (by omega) a (by omega) false
     simp only [yoy,if_false] at hrun
     have hrl:=zhh numB (l.drop a)
     simp only [ypf] at hrl
     have cw1:=fun K=>cw (rowN numB (l.drop a)) K (by omega)
     have hval:=fun K=>zud ((l.drop a).take (rowN numB (l.drop a))) (by simp;omega) K
     cases g2:numV ((l.drop a).take (rowN numB (l.drop a))) with
     | none=>
      rw [g2] at hw hval
      simp only [yid,Option.isSome_none] at hval
      simp only [zb,yor,qt,wt,zu,zh,yr,xk,yo7,hbl,d1,xl _ hal,wa,xo,g1,hrun,cw1,hval,pkA,pkB]
      exact refused 23 hw _ (hp.more _)
     | some u=>
      rw [g2] at hw hval
      simp only [yid,Option.isSome_some] at hval
      obtain ⟨q1,q2,q3⟩:=worded _ _ _ hw
      obtain ⟨s',H',p1,p2,p3,p4⟩:=zen ho hp 2 2 rfl ((l.drop a).take (rowN numB (l.drop a))) (IntKind.i64.wrap u) a (by omega)
      simp only [zb,ypc,yor,slc,zc,z6,zu,zh,yr,xk,yo7,hbl,d1,xl _ hal,wa,xo,g1,hrun,cw1,hval,ba,p1,pkA,pkB]
      exact ⟨a+rowN numB (l.drop a),_,H',s',(junk rfl).elim fun j hj=>⟨j,by omega,by omega,by simp;omega,p2,p3,q3,hj⟩⟩
   ·have d1:((l.length:Int)≤(a:Int))=True:=by simp;omega
    simp only [zb,qt,wt,zu,zh,yo7,hbl,d1,pkA,pkB]
    exact stop a acc H1 s (by omega) ho hp hs
  ·rw [hsc] at hs
   rw [←hs]
   simp only [zb,qt,wt,yo7,hbl,pkA,pkB]
   exact ⟨rfl,((Own.nil h H1 4).fin hp fun _=>rfl).2⟩
 ·rintro st ⟨a0,acc,H,s,j,h1,h2,h3,ho,hp,hs,rfl⟩
  obtain ⟨v,H1,hbl,rfl,a,b1,b2,b3⟩:=zm7 l (by omega) a0 h2 H
  have ha:a=l.length:=by omega
  have ha0:a0=l.length:=by omega
  have d1:((l.length:Int)≤(a:Int))=True:=by simp;omega
  rcases b3 with ⟨rfl,hsk,hsc⟩ | ⟨rfl,hsc⟩
  ·rw [hsc] at hs
   simp only [zb,qt,wt,zu,zh,yo7,hbl,d1,pkA,pkB]
   exact stop a acc H1 s (by omega) ho hp hs
  ·rw [ha0,yp5] at hsc
   cases hsc
 ·exact ⟨0,[],h,_,(junk rfl).elim fun j hj=>⟨j,by omega,by omega,by simp,Own.nil h h 4,Pre.refl h,by rw [List.drop_zero];cases j6 l 0 <;> rfl,hj⟩⟩
section
variable {P:RP}
def LvS (P:RP) (h:Heap) (d:Nat) (part:List Tok→PR Ex) (mm:Bys→Option Op2) (R:PR Ex) (K:Heap) (v:Value) (n:Nat):Prop:=(∃b S j a x,v=pt b∧TreeA K S b x.pl x∧(∀z,
 S z→h.length≤z∧z<K.length)∧Dd P K j d 0 a∧Mv P h K∧R=binL part mm (P.L.drop j).length x (P.L.drop j)∧n=P.L.length - j+1)∨(∃c p j,R=.bad c p∧c≠0∧NV K v∧Dd P K j d c p∧Mv P h K∧n=0)
theorem ye0 {part:List Tok→PR Ex} {mm:Bys→Option Op2} (hp:Shr part) (h0:mm []=none) (x:Ex) (j:Nat):binL part mm (P.L.drop j).length x (P.L.drop j)=match mm (keyT (zd P j)) with
  | none=>.ok x (P.L.drop j)
  | some o=>match part (P.L.drop (j+1)) with
   | .ok y r=>binL part mm r.length (.bin false o x y) r
   | .bad c a=>.bad c a:=by
 by_cases hj:j<P.L.length
 ·have hg:P.L[j]?=some P.L[j]:=yow hj
  have ht:zd P j=P.L[j]:=by unfold zd;rw [hg];rfl
  rw [pv hg,ypb,binL,ht]
  cases mm (keyT P.L[j]) with
  | none=>rfl
  | some o=>
   simp only
   cases hq:part (P.L.drop (j+1)) with
   | bad c a=>rfl
   | ok y r=>
    have:=hp _ _ _ hq
    exact zjw hp _ _ _ _ (by omega) (yoz _)
 ·rw [yo5 (by omega),xx hj,zbb,h0];rfl
theorem zqv {h K K1:Heap} {d:Nat} {part:List Tok→PR Ex} {mm:Bys→Option Op2} {R:PR Ex} {F:FuncId} (hr:P.r<h.length) (hc:P.c<h.length) (hp:Shr part) (h0:mm []=none) (rd:zgq P F d part) {b:Nat} {S:Nat→Prop} {j a:Nat} {x:Ex} (t:TreeA K S b x.pl x) (hS:∀z,S z→h.length≤z∧z<K.length) (mK:Mv P h K) (hR:R=binL part mm (P.L.drop j).length x (P.L.drop j)) {o:Op2} (hm:mm (keyT (zd P j))=some o) (hj:j<P.L.length) (e1:Dd P K1 (j+1) d 0 a) (m1:Mv P K K1):
  ∃v2 K2 v3 K3 n,DF FF F [pt P.r] K1=some (v2,K2)∧DF FF xg [.int .i64 (op2D o:Nat),pt b,v2] K2=some (v3,K3)∧n<P.L.length - j+1∧LvS P h d part mm R K3 v3 n:=by
 obtain ⟨v2,K2,q,D⟩:=rd K1 (j+1) a e1
 rw [ye0 hp h0,hm] at hR
 simp only at hR
 have keepS:∀{K'},Mv P K K'→TreeA K' S b x.pl x:=fun m=>t.keep fun z o hz ho=>m.keep z o ho (by have:=(hS z hz).1;omega) (by have:=(hS z hz).1;omega)
 cases hq:part (P.L.drop (j+1)) with
 | bad c p=>
  rw [hq] at D hR
  obtain ⟨c0,nv,⟨j',e2⟩,m2⟩:=D
  have t2:=keepS (m1.trans m2)
  obtain ⟨v3,K3,q3,nv3,p3⟩:=zxh (op2D o) (NV.tree t2) nv
  obtain ⟨e3,m3⟩:=e2.pre p3
  exact ⟨v2,K2,v3,K3,0,q,q3,by omega,.inr ⟨c,p,j',hR,c0,nv3,e3,((mK.trans m1).trans m2).trans m3,rfl⟩⟩
 | ok y r=>
  have hs:=hp _ _ _ hq
  rw [hq] at D hR
  obtain ⟨b2,S2,j',a',rfl,t2,hS2,rfl,e2,m2⟩:=D
  have tx:=keepS (m1.trans m2)
  obtain ⟨k,w,o',l,r',hbS,hb⟩:=tx.root
  have q3:=ya7 (op2D o) (c:=b2) hb
  have lK:=m1.le;have lK2:=m2.le
  refine ⟨_,K2,_,_,P.L.length - j'+1,q,q3,?_,.inl ⟨K2.length,fun z=>S z∨S2 z∨z=K2.length,j',a',.bin false o x y,rfl,⟨S,S2,b,b2,.inr (.inr rfl),by simp;rfl,tx.keep fun _ _ _ ho=>zm _ ho,t2.keep fun _ _ _ ho=>zm _ ho,fun z hz=>⟨.inl hz,?_,fun h2=> ?_⟩,fun z hz=>⟨.inr (.inl hz),?_⟩⟩,?_,e2.more _,((mK.trans m1).trans m2).more _,hR,rfl⟩⟩
  ·simp only [ypf] at hs;have:=e2.le;omega
  ·have:=(hS z hz).2;omega
  ·have:=(hS z hz).2;have:=(hS2 z h2).1;omega
  ·have:=(hS2 z hz).2;omega
  ·have hl:h.length≤K.length:=mK.le
   rintro z (hz | hz | rfl)
   ·have:=hS z hz;simp;omega
   ·have:=hS2 z hz;simp;omega
   ·simp;omega
theorem zrm {h:Heap} {d:Nat} {part:List Tok→PR Ex} {mm:Bys→Option Op2} {v:Value} {K:Heap} {i:Nat} (D:DoneD P h d v K (part (P.L.drop i))):∃n,LvS P h d part mm (zas part mm (P.L.drop i)) K v n:=by
 unfold zas
 cases hq:part (P.L.drop i) with
 | bad c p=>
  rw [hq] at D
  obtain ⟨c0,nv,⟨j,e⟩,m⟩:=D
  exact ⟨0,.inr ⟨c,p,j,rfl,c0,nv,e,m,rfl⟩⟩
 | ok x r=>
  rw [hq] at D
  obtain ⟨b,S,j,a,rfl,t,hS,rfl,e,m⟩:=D
  exact ⟨_,.inl ⟨b,S,j,a,x,rfl,t,hS,e,m,rfl,rfl⟩⟩
end
section
variable {P:RP}
theorem DoneD.fin {h K:Heap} {i d x a:Nat} {v:Value} {R:PR Ex} (e:Dd P h i d x a) (D:DoneD P h d v K R):DoneD P h d v (AM.finish h v K) R:=by
 cases R with
 | ok y r=>
  obtain ⟨b,S,j,a',rfl,t,hS,hr,e',m⟩:=D
  rw [jn];exact ⟨b,S,j,a',rfl,t,hS,hr,e',m⟩
 | bad c p=>
  obtain ⟨c0,nv,⟨j,e'⟩,m⟩:=D
  rcases nv with rfl | ⟨b,k,w,q,o,l,r,s,rfl,hb⟩
  ·have:=e.fin2 e' m nilP
   exact ⟨c0,.inl rfl,⟨j,this.1⟩,this.2⟩
  ·rw [jn];exact ⟨c0,.inr ⟨b,k,w,q,o,l,r,s,rfl,hb⟩,⟨j,e'⟩,m⟩
theorem zby {j:Nat} {m:Bys} (hm:m≠[]) (hk:(keyT (zd P j)==m)=true):j<P.L.length:=by
 by_cases hj:j<P.L.length
 ·exact hj
 ·rw [xx hj,zbb] at hk;exact absurd (eq_of_beq hk).symm hm
theorem yc6 {h K K1:Heap} {d:Nat} {part:List Tok→PR Ex} {mm:Bys→Option Op2} {R:PR Ex} (hr:P.r<h.length) (hc:P.c<h.length) (hp:Shr part) (h0:mm []=none) {b:Nat} {S:Nat→Prop} {j a:Nat} {x:Ex} (t:TreeA K S b x.pl x) (hS:∀z,S z→h.length≤z∧z<K.length) (mK:Mv P h K) (hR:R=binL part mm (P.L.drop j).length x (P.L.drop j)) (hm:mm (keyT (zd P j))=none) (e1:Dd P K1 j d 0 a) (m1:Mv P K K1):DoneD P h d (pt b) K1 R:=by
 rw [ye0 hp h0,hm] at hR
 rw [hR]
 exact ⟨b,S,j,a,rfl,t.keep fun z o hz ho=>m1.keep z o ho (by have:=(hS z hz).1;omega) (by have:=(hS z hz).1;omega),fun z hz=>by have:=hS z hz;have:=m1.le;omega,rfl,e1,mK.trans m1⟩
def ChI (P:RP) (h:Heap) (d:Nat) (part:List Tok→PR Ex) (R:PR Ex) (n:Nat) (st:St):Prop:=∃K v,(∃j:Nat→Value,st=⟨[pt P.r,j 1,j 2,v,j 4,j 5,j 6,j 7,j 8,j 9,j 10,j 11,j 12],K⟩)∧LvS P h d part seqM R K v n
def ChO (P:RP) (h:Heap) (d:Nat) (R:PR Ex) (st:St):Prop:=∃K v,(∃j:Nat→Value,st=⟨[j 0,j 1,j 2,v,j 4,j 5,j 6,j 7,j 8,j 9,j 10,j 11,j 12],K⟩)∧DoneD P h d v K R
set_option maxHeartbeats 4000000 in
theorem yge {d:Nat} {part:List Tok→PR Ex} (hp:Shr part) (rd:zgq P xu d part):zgq P xj d (zas part seqM):=by
 intro h i a e
 refine yb zac ?_
 obtain ⟨v,K,q,D⟩:=rd h i a e
 obtain ⟨n,L⟩:=zrm (mm:=seqM) D
 obtain ⟨R,hR⟩:∃R,R=zas part seqM (P.L.drop i):=⟨_,rfl⟩
 rw [←hR] at L ⊢
 simp only [gm,yos,zf,q,pkA,pkB]
 refine zj5 0 (ChI P h d part R) (ChO P h d R) ?_ n _ ⟨K,v,junk rfl,L⟩ ?_
 ·rintro m st ⟨K,v,⟨j0,rfl⟩,⟨b,S,j,a,x,rfl,t,hS,eK,mK,hRR,rfl⟩ | ⟨c,p,j,hRR,c0,nv,eK,mK,rfl⟩⟩
  ·obtain ⟨K1,qw,e1,m1⟩:=zeb eK (m:=[59]) (by simp)
   cases hk:keyT (zd P j)==[59]
   ·rw [hk] at qw e1
    rw [if_neg yo1] at e1
    simp only [x8,qw,x8,pkA]
    exact ⟨K1,_,junk rfl,yc6 e.lr e.lc hp rfl t hS mK hRR (by unfold seqM;rw [hk];rfl) e1 m1⟩
   ·rw [hk] at qw e1
    rw [if_pos rfl] at e1
    obtain ⟨v2,K2,v3,K3,n,q1,q2,hlt,L⟩:=zqv e.lr e.lc hp rfl rd t hS mK hRR (o:=.seq) (by unfold seqM;rw [hk];rfl) (zby (by simp) hk) e1 m1
    simp only [op2D,yov] at q2
    simp only [qw,q1,q2,pkA]
    exact ⟨n,hlt,K3,v3,junk rfl,L⟩
  ·simp only [x8,zib eK c0,x8,pkA]
   exact ⟨K,v,junk rfl,by rw [hRR];exact ⟨c0,nv,⟨j,eK⟩,mK⟩⟩
 rintro st ⟨K,v,⟨j,rfl⟩,D⟩
 simp only [zy,zy,pkA]
 exact D.fin e
def XpI (P:RP) (h:Heap) (d:Nat) (part:List Tok→PR Ex) (R:PR Ex) (n:Nat) (st:St):Prop:=∃K v,(∃j:Nat→Value,st=⟨[pt P.r,j 1,j 2,v,j 4,j 5,j 6,j 7,j 8,j 9,j 10,j 11,j 12],K⟩)∧LvS P h d part orM R K v n
def XpO (P:RP) (h:Heap) (d:Nat) (R:PR Ex) (st:St):Prop:=∃K v,(∃j:Nat→Value,st=⟨[j 0,j 1,j 2,v,j 4,j 5,j 6,j 7,j 8,j 9,j 10,j 11,j 12],K⟩)∧DoneD P h d v K R
set_option maxHeartbeats 4000000 in
theorem ykn {d:Nat} {part:List Tok→PR Ex} (hp:Shr part) (rd:zgq P wh d part):zgq P ya d (zas part orM):=by
 intro h i a e
 refine yb zax ?_
 obtain ⟨v,K,q,D⟩:=rd h i a e
 obtain ⟨n,L⟩:=zrm (mm:=orM) D
 obtain ⟨R,hR⟩:∃R,R=zas part orM (P.L.drop i):=⟨_,rfl⟩
 rw [←hR] at L ⊢
 simp only [gw,yos,zf,q,pkA,pkB]
 refine zj5 0 (XpI P h d part R) (XpO P h d R) ?_ n _ ⟨K,v,junk rfl,L⟩ ?_
 ·rintro m st ⟨K,v,⟨j0,rfl⟩,⟨b,S,j,a,x,rfl,t,hS,eK,mK,hRR,rfl⟩ | ⟨c,p,j,hRR,c0,nv,eK,mK,rfl⟩⟩
  ·obtain ⟨K1,qw,e1,m1⟩:=zeb eK (m:=[124]) (by simp)
   cases hk:keyT (zd P j)==[124]
   ·rw [hk] at qw e1
    rw [if_neg yo1] at e1
    simp only [x8,qw,x8,pkA]
    exact ⟨K1,_,junk rfl,yc6 e.lr e.lc hp rfl t hS mK hRR (by unfold orM;rw [hk];rfl) e1 m1⟩
   ·rw [hk] at qw e1
    rw [if_pos rfl] at e1
    obtain ⟨v2,K2,v3,K3,n,q1,q2,hlt,L⟩:=zqv e.lr e.lc hp rfl rd t hS mK hRR (o:=.or) (by unfold orM;rw [hk];rfl) (zby (by simp) hk) e1 m1
    simp only [op2D,yov] at q2
    simp only [qw,q1,q2,pkA]
    exact ⟨n,hlt,K3,v3,junk rfl,L⟩
  ·simp only [x8,zib eK c0,x8,pkA]
   exact ⟨K,v,junk rfl,by rw [hRR];exact ⟨c0,nv,⟨j,eK⟩,mK⟩⟩
 rintro st ⟨K,v,⟨j,rfl⟩,D⟩
 simp only [zy,zy,pkA]
 exact D.fin e
def MtI (P:RP) (h:Heap) (d:Nat) (part:List Tok→PR Ex) (R:PR Ex) (n:Nat) (st:St):Prop:=∃K v,(∃j:Nat→Value,st=⟨[pt P.r,j 1,j 2,v,j 4,j 5,j 6,j 7,j 8,j 9,j 10,j 11,j 12,j 13,j 14,j 15,j 16,j 17,j 18,j 19,j 20,j 21,j 22,j 23,j 24,j 25,j 26],K⟩)∧LvS P h d part andM R K v n
set_option maxHeartbeats 8000000 in
theorem ykx {d:Nat} {part:List Tok→PR Ex} (hp:Shr part) (rd:zgq P xj d part):zgq P wh d (zas part andM):=by
 intro h i a e
 refine yb zay ?_
 obtain ⟨v,K,q,D⟩:=rd h i a e
 obtain ⟨n,L⟩:=zrm (mm:=andM) D
 obtain ⟨R,hR⟩:∃R,R=zas part andM (P.L.drop i):=⟨_,rfl⟩
 rw [←hR] at L ⊢
 simp only [gy,yos,zf,q,pkA,pkB]
 refine zgx (MtI P h d part R) ?_ n _ ⟨K,v,junk rfl,L⟩
 rintro m st ⟨K,v,⟨j0,rfl⟩,⟨b,S,j,a,x,rfl,t,hS,eK,mK,hRR,rfl⟩ | ⟨c,p,j,hRR,c0,nv,eK,mK,rfl⟩⟩
 ·obtain ⟨K1,qw,e1,m1⟩:=zeb eK (m:=[38]) (by simp)
  cases hk:keyT (zd P j)==[38]
  ·rw [hk] at qw e1
   rw [if_neg yo1] at e1
   obtain ⟨K2,qw2,e2,m2⟩:=zeb e1 (m:=[92]) (by simp)
   cases hk2:keyT (zd P j)==[92]
   ·rw [hk2] at qw2 e2
    rw [if_neg yo1] at e2
    simp only [zb,zy,eK.r0,yov,qw,qw2,zy,pkA,pkB]
    exact (yc6 e.lr e.lc hp rfl t hS mK hRR (by unfold andM;rw [hk,hk2];rfl) e2 (m1.trans m2)).fin e
   ·rw [hk2] at qw2 e2
    rw [if_pos rfl] at e2
    obtain ⟨v2,K2,v3,K3,n,q1,q2,hlt,L⟩:=zqv e.lr e.lc hp rfl rd t hS mK hRR (o:=.minus) (by unfold andM;rw [hk,hk2];rfl) (zby (by simp) hk2) e2 (m1.trans m2)
    simp only [op2D,yov] at q2
    simp only [zb,eK.r0,yov,qw,qw2,q1,q2,pkA,pkB]
    exact ⟨n,hlt,K3,v3,junk rfl,L⟩
  ·rw [hk] at qw e1
   rw [if_pos rfl] at e1
   obtain ⟨v2,K2,v3,K3,n,q1,q2,hlt,L⟩:=zqv e.lr e.lc hp rfl rd t hS mK hRR (o:=.and) (by unfold andM;rw [hk];rfl) (zby (by simp) hk) e1 m1
   simp only [op2D,yov] at q2
   simp only [zb,eK.r0,yov,qw,q1,q2,pkA,pkB]
   exact ⟨n,hlt,K3,v3,junk rfl,L⟩
 ·simp only [zb,zy,eK.r0,zlh c0,zy,pkA,pkB]
  exact DoneD.fin e (by rw [hRR];exact ⟨c0,nv,⟨j,eK⟩,mK⟩)
end
section
variable {P:RP}
theorem yjx:begT zir=false:=by decide
theorem zsd (j:Nat):zgh (P.L.drop j)=begT (zd P j):=by
 by_cases hj:j<P.L.length
 ·have hg:P.L[j]?=some P.L[j]:=yow hj
  have ht:zd P j=P.L[j]:=by unfold zd;rw [hg];rfl
  rw [pv hg,zgh,ht];rfl
 ·rw [yo5 (by omega),xx hj,yjx];rfl
def ym9 (f:List Tok→PR Ex):Prop:=∀ts x t r,f ts=.ok x (t::r)→(keyT t==[42])=true→zgh r=true
set_option maxHeartbeats 4000000 in
theorem zz2 {d:Nat} {post:List Tok→PR Ex} (hb:ym9 post) (rd:zgq P wg d post):zgq P xu d (zo6 post):=by
 intro h i a e
 refine yb ph ?_
 obtain ⟨v,K,q,D⟩:=rd h i a e
 unfold zo6
 cases hq:post (P.L.drop i) with
 | bad c p=>
  rw [hq] at D
  obtain ⟨c0,nv,⟨j,eK⟩,mK⟩:=D
  simp only [xc,zi,zb,yos,zy,zf,q,eK.r0,zlh c0,zy,pkA,pkB]
  exact DoneD.fin e ⟨c0,nv,⟨j,eK⟩,mK⟩
 | ok x r=>
  have hq':=hq
  rw [hq] at D
  obtain ⟨b,S,j,a',rfl,t,hS,rfl,eK,mK⟩:=D
  have pk:=zu2 eK
  by_cases hj:j<P.L.length
  ·have hg:P.L[j]?=some P.L[j]:=yow hj
   have ht:zd P j=P.L[j]:=by unfold zd;rw [hg];rfl
   have hdr:=pv hg
   cases hk:keyT (zd P j)==[42]
   ·simp only [xc,zi,zb,yos,zy,zf,yf,q,eK.r0,yov,pk,hk,zy,pkA,pkB]
    refine DoneD.fin e ?_
    rw [hdr]
    simp only [←ht,hk,yoy,if_false]
    exact ⟨b,S,j,a',rfl,t,hS,by rw [hdr,ht],eK,mK⟩
   ·have bg:begT (zd P (j+1))=true:=by
     rw [←zsd]
     exact hb _ _ _ _ (by rw [hq',hdr]) (by rw [←ht];exact hk)
    have db:=zsu eK
    rw [bg] at db
    obtain ⟨K1,qn,e1,m1⟩:=ze9 eK
    rw [if_pos hj] at e1
    obtain ⟨v2,K2,q2,D2⟩:=rd K1 (j+1) a' e1
    have keepS:∀{K'},Mv P K K'→TreeA K' S b x.pl x:=fun m=>t.keep fun z o hz ho=>m.keep z o ho (by have:=(hS z hz).1;have:=e.lr;omega) (by have:=(hS z hz).1;have:=e.lc;omega)
    rw [hdr]
    simp only [←ht,hk,if_true]
    cases hq2:post (P.L.drop (j+1)) with
    | bad c p=>
     rw [hq2] at D2
     obtain ⟨c0,nv,⟨j',e2⟩,m2⟩:=D2
     obtain ⟨v3,K3,q3,nv3,p3⟩:=zxh 7 (NV.tree (keepS (m1.trans m2))) nv
     obtain ⟨e3,m3⟩:=e2.pre p3
     simp only [yov] at q3
     simp only [xc,zi,zb,yos,zy,zf,yf,q,eK.r0,yov,pk,hk,db,qn,q2,q3,zy,pkA,pkB]
     exact DoneD.fin e ⟨c0,nv3,⟨j',e3⟩,((mK.trans m1).trans m2).trans m3⟩
    | ok y r2=>
     rw [hq2] at D2
     obtain ⟨b2,S2,j',a2,rfl,t2,hS2,rfl,e2,m2⟩:=D2
     have tx:=keepS (m1.trans m2)
     obtain ⟨k,w,o',l,r',hbS,hbo⟩:=tx.root
     have q3:=ya7 7 (c:=b2) hbo
     simp only [yov] at q3
     have lK:=m1.le;have lK2:=m2.le
     have hl:h.length≤K.length:=mK.le
     simp only [xc,zi,zb,yos,zy,zf,yf,q,eK.r0,yov,pk,hk,db,qn,q2,q3,zy,pkA,pkB]
     refine DoneD.fin e ⟨K2.length,fun z=>S z∨S2 z∨z=K2.length,j',a2,rfl,⟨S,S2,b,b2,.inr (.inr rfl),by simp;rfl,tx.keep fun _ _ _ ho=>zm _ ho,t2.keep fun _ _ _ ho=>zm _ ho,fun z hz=>⟨.inl hz,?_,fun h2=> ?_⟩,fun z hz=>⟨.inr (.inl hz),?_⟩⟩,?_,rfl,e2.more _,((mK.trans m1).trans m2).more _⟩
     ·have:=(hS z hz).2;omega
     ·have:=(hS z hz).2;have:=(hS2 z h2).1;omega
     ·have:=(hS2 z hz).2;omega
     ·rintro z (hz | hz | rfl)
      ·have:=hS z hz;simp;omega
      ·have:=hS2 z hz;simp;omega
      ·simp;omega
  ·have hk:(keyT (zd P j)==[42])=false:=by rw [xx hj];rfl
   have hnil:P.L.drop j=[]:=yo5 (by omega)
   simp only [xc,zi,zb,yos,zy,zf,yf,q,eK.r0,yov,pk,hk,zy,pkA,pkB]
   refine DoneD.fin e ?_
   rw [hnil]
   exact ⟨b,S,j,a',rfl,t,hS,hnil.symm,eK,mK⟩
end
section
variable {P:RP}
theorem yh1 (k j:Nat) (x:Ex) (hk:(P.L.drop j).length≤k):pj P.en k x (P.L.drop j)=if keyT (zd P j)==[43] then pj P.en k (.un .plus x) (P.L.drop (j+1))
  else if keyT (zd P j)==[63] then pj P.en k (.un .maybe x) (P.L.drop (j+1))
  else if keyT (zd P j)==[42]&& !begT (zd P (j+1)) then pj P.en k (.un .star x) (P.L.drop (j+1))
  else if keyT (zd P j)==[94] then inv2 P.en (fun r=>pj P.en k (.un .inv x) r) (P.L.drop (j+1))
  else .ok x (P.L.drop j):=by
 by_cases hj:j<P.L.length
 ·have hg:P.L[j]?=some P.L[j]:=yow hj
  have ht:zd P j=P.L[j]:=by unfold zd;rw [hg];rfl
  have hl:(P.L.drop (j+1)).length+1=(P.L.drop j).length:=by simp;omega
  cases k with
  | zero=>omega
  | succ k=>
   have f:∀y ts,ts.length≤(P.L.drop (j+1)).length→pj P.en k y ts=pj P.en (k+1) y ts:=fun y ts h=>zbl P.en k (k+1) y ts (by omega) (by omega)
   rw [pv hg,pj,←zsd,ht]
   rw [f _ _ (yoz _),f _ _ (yoz _),f _ _ (yoz _),zlo fun r hr=>f _ r (Nat.le_of_lt hr)]
 ·have hn:P.L.drop j=[]:=yo5 (by omega)
  rw [hn,xx hj,zbb]
  cases k <;> rfl
theorem zf2 (e:Nat):∀(k:Nat) (n:Ex) (ts:List Tok) (x:Ex) (t:Tok) (r:List Tok),ts.length≤k→pj e k n ts=.ok x (t::r)→(keyT t==[42])=true→zgh r=true
 | 0,n,ts,x,t,r,hk,h,hs=>by
  have:ts=[]:=ypj (by omega)
  subst this;rw [pj] at h;cases h
 | k+1,n,[],x,t,r,hk,h,hs=>by rw [pj] at h;cases h
 | k+1,n,u::ts,x,t,r,hk,h,hs=>by
  simp only [ypb] at hk
  rw [pj] at h
  split at h
  ·exact zf2 e k _ _ _ _ _ (by omega) h hs
  split at h
  ·exact zf2 e k _ _ _ _ _ (by omega) h hs
  split at h
  ·exact zf2 e k _ _ _ _ _ (by omega) h hs
  rename_i h42
  split at h
  ·obtain ⟨ts',h1,h2⟩:=zxs h
   exact zf2 e k _ _ _ _ _ (by omega) h2 hs
  ·cases h
   simpa [hs] using h42
theorem zzb {e:Nat} {prim:List Tok→PR Ex} (hp:Shr prim):ym9 (znp e prim):=by
 intro ts x t r h hs
 unfold znp at h
 split at h
 ·exact zf2 e _ _ _ _ _ _ (yoz _) h hs
 ·cases h
end
section
variable {P:RP}
def PoS (P:RP) (h:Heap) (d:Nat) (R:PR Ex) (K:Heap) (v:Value) (n:Nat):Prop:=(∃b S j a x,v=pt b∧TreeA K S b x.pl x∧(∀z,
 S z→h.length≤z∧z<K.length)∧Dd P K j d 0 a∧Mv P h K∧R=pj P.en P.L.length x (P.L.drop j)∧n=P.L.length - j+1)∨(∃c p j,R=.bad c p∧c≠0∧NV K v∧Dd P K j d c p∧Mv P h K∧n=0)
theorem zqm {h K K1:Heap} {d j' a:Nat} {R:PR Ex} (hr:P.r<h.length) (hc:P.c<h.length) {b:Nat} {S:Nat→Prop} {x:Ex} (t:TreeA K S b x.pl x) (hS:∀z,S z→h.length≤z∧z<K.length) (mK:Mv P h K) (o:Op1) (e1:Dd P K1 j' d 0 a) (m1:Mv P K K1) (hR:R=pj P.en P.L.length (.un o x) (P.L.drop j')):
  ∃v3 K3,DF FF xh [.int .i64 (op1D o:Nat),pt b] K1=some (v3,K3)∧PoS P h d R K3 v3 (P.L.length - j'+1):=by
 have tx:TreeA K1 S b x.pl x:=t.keep fun z o hz ho=>m1.keep z o ho (by have:=(hS z hz).1;omega) (by have:=(hS z hz).1;omega)
 obtain ⟨k,w,o',l,r',hbS,hb⟩:=tx.root
 have lK:=m1.le
 have hl:h.length≤K.length:=mK.le
 refine ⟨_,_,ycu (op1D o) hb,.inl ⟨K1.length,fun z=>S z∨z=K1.length,j',a,.un o x,rfl,⟨S,b,.inr rfl,by simp;rfl,tx.keep fun _ _ _ ho=>zm _ ho,fun z hz=>⟨.inl hz,?_⟩⟩,?_,e1.more _,(mK.trans m1).more _,hR,rfl⟩⟩
 ·have:=(hS z hz).2;omega
 ·rintro z (hz | rfl)
  ·have:=hS z hz;simp;omega
  ·simp;omega
theorem yjf {h K K1:Heap} {d j' c p:Nat} {R:PR Ex} {v:Value} (nv:NV K v) (mK:Mv P h K) {j a:Nat} (eK:Dd P K j d 0 a) (m1:Mv P K K1) (k:Nat) (e1:Dd P K1 j' d c p) (c0:c≠0) (hR:R=.bad c p):
  ∃v3 K3,DF FF xh [.int .i64 (k:Nat),v] K1=some (v3,K3)∧PoS P h d R K3 v3 0:=by
 obtain ⟨v3,K3,q3,nv3,p3⟩:=yic k (nv.mv eK m1)
 obtain ⟨e3,m3⟩:=e1.pre p3
 exact ⟨v3,K3,q3,.inr ⟨c,p,j',hR,c0,nv3,e3,(mK.trans m1).trans m3,rfl⟩⟩
def PoI (P:RP) (h:Heap) (d:Nat) (R:PR Ex) (n:Nat) (st:St):Prop:=∃K v,(∃j:Nat→Value,st=⟨[pt P.r,j 1,j 2,v,j 4,j 5,j 6,j 7,j 8,j 9,j 10,j 11,j 12,j 13,j 14,j 15,j 16,j 17,j 18,j 19,j 20,j 21,j 22,j 23,j 24,j 25,j 26,j 27,j 28,j 29,j 30,j 31,j 32,j 33,j 34,j 35,j 36,j 37,j 38,j 39,j 40,j 41,j 42,j 43,j 44,j 45,j 46,j 47,j 48,j 49,j 50,j 51,j 52,j 53,j 54,j 55,j 56,j 57,j 58,j 59,j 60,j 61,j 62,j 63,j 64,j 65,j 66,j 67,j 68,j 69,j 70,j 71,j 72,j 73,j 74,j 75,j 76,j 77,j 78,j 79,j 80,j 81],K⟩)∧PoS P h d R K v n
set_option maxHeartbeats 16000000 in
theorem ylm {d:Nat} {prim:List Tok→PR Ex} (hp:Shr prim) (rd:zgq P yk d prim):zgq P wg d (znp P.en prim):=by
 intro h i a e
 refine yb zau ?_
 obtain ⟨v,K,q,D⟩:=rd h i a e
 obtain ⟨R,hR⟩:∃R,R=znp P.en prim (P.L.drop i):=⟨_,rfl⟩
 have L:∃n,PoS P h d R K v n:=by
  rw [hR];unfold znp
  cases hq:prim (P.L.drop i) with
  | bad c p=>
   rw [hq] at D
   obtain ⟨c0,nv,⟨j,eK⟩,mK⟩:=D
   exact ⟨0,.inr ⟨c,p,j,rfl,c0,nv,eK,mK,rfl⟩⟩
  | ok x r=>
   rw [hq] at D
   obtain ⟨b,S,j,a,rfl,t,hS,rfl,eK,mK⟩:=D
   exact ⟨_,.inl ⟨b,S,j,a,x,rfl,t,hS,eK,mK,zbl P.en _ _ x _ (yoz _) (by simp),rfl⟩⟩
 rw [←hR]
 obtain ⟨n,L⟩:=L
 simp only [g8,yos,zf,q,pkA,pkB]
 refine zgx (PoI P h d R) ?_ n _ ⟨K,v,junk rfl,L⟩
 rintro m st ⟨K,v,⟨j0,rfl⟩,⟨b,S,j,a,x,rfl,t,hS,eK,mK,hRR,rfl⟩ | ⟨c,p,j,hRR,c0,nv,eK,mK,rfl⟩⟩
 ·rw [yh1 P.L.length j x (by simp)] at hRR
  obtain ⟨K1,w1,e1,m1⟩:=zeb eK (m:=[43]) (by simp)
  cases h43:keyT (zd P j)==[43]
  ·rw [h43] at w1 e1 hRR
   simp only [yoy,if_false] at e1 hRR
   have pk:=zu2 e1
   have bg:=zsu e1
   cases hst:(keyT (zd P j)==[42]&& !begT (zd P (j+1)))
   ·rw [hst] at hRR
    simp only [yoy,if_false] at hRR
    obtain ⟨K2,w2,e2,m2⟩:=zeb e1 (m:=[63]) (by simp)
    have m12:=m1.trans m2
    cases h63:keyT (zd P j)==[63]
    ·rw [h63] at w2 e2 hRR
     simp only [yoy,if_false] at e2 hRR
     obtain ⟨K3,w3,e3,m3⟩:=zeb e2 (m:=[94]) (by simp)
     have m13:=m12.trans m3
     cases h94:keyT (zd P j)==[94]
     ·rw [h94] at w3 e3 hRR
      simp only [yoy,if_false] at e3 hRR
      have dn:DoneD P h d (pt b) K3 R:=by
       rw [hRR]
       exact ⟨b,S,j,a,rfl,t.keep fun z o hz ho=>m13.keep z o ho (by have:=(hS z hz).1;have:=e.lr;omega) (by have:=(hS z hz).1;have:=e.lc;omega),fun z hz=>by have:=hS z hz;have:=m13.le;omega,rfl,e3,mK.trans m13⟩
      cases h42:keyT (zd P j)==[42]
      ·simp only [zi,zb,zy,yf,eK.r0,yov,w1,pk,h42,w2,w3,zy,pkA,pkB]
       exact dn.fin e
      ·have bgt:begT (zd P (j+1))=true:=by rw [h42] at hst;simpa using hst
       rw [bgt] at bg
       simp only [zi,zb,zy,yf,eK.r0,yov,w1,pk,h42,bg,w2,w3,zy,pkA,pkB]
       exact dn.fin e
     ·rw [h94] at w3 e3 hRR
      simp only [if_true] at e3 hRR
      have h42:(keyT (zd P j)==[42])=false:=by rw [eq_of_beq h94];rfl
      have hj:=zby (P:=P) (by simp) h94
      rw [yc8] at hRR
      obtain ⟨K4,w4,e4,m4⟩:=zwb e3 (m:=[45]) (by simp)
      have m14:=m13.trans m4
      cases h45:keyT (zd P (j+1))==[45]
      ·rw [h45] at e4 hRR
       simp only [yoy,if_false] at e4 hRR
       have c0:=wq P (j+1)
       obtain ⟨K5,qn,e5,m5⟩:=ze9 (e4.more [.cells (yd (zd P (j+1))) 0 false])
       obtain ⟨v3,K6,q3,L⟩:=yjf (R:=R) (NV.tree t) mK eK ((m14.more _).trans m5) 11 e5 c0 hRR
       simp only [yov] at q3
       simp only [zi,zb,yor,yf,zk,eK.r0,e4.r0,e4.r1,yov,w1,pk,h42,w2,w3,w4,qr e4,zlh c0,qn,q3,pkA,pkB]
       exact ⟨_,by omega,K6,v3,junk rfl,L⟩
      ·rw [h45] at e4 hRR
       simp only [if_true] at e4 hRR
       rw [ydd] at hRR
       have hj2:=zby (P:=P) (by simp) h45
       cases hg:((zd P (j+1+1)).kind==2&&(zd P (j+1+1)).n==1)
       ·rw [hg] at hRR
        simp only [yoy,if_false] at hRR
        have c0:=wq P (j+1+1)
        obtain ⟨K5,qo,e5,m5⟩:=ztd (e4.more [.cells (yd (zd P (j+1+1))) 0 false])
        obtain ⟨K6,qn,e6,m6⟩:=ze9 e5
        obtain ⟨v3,K7,q3,L⟩:=yjf (R:=R) (NV.tree t) mK eK (((m14.more _).trans m5).trans m6) 11 e6 c0 hRR
        simp only [yov] at q3
        by_cases hlt:j+1+1<P.L.length
        ·cases hk2:(((zd P (j+1+1)).kind:Int) !=2)
         ·have hk:((zd P (j+1+1)).kind==2)=true:=by rw [beq_iff_eq];have:=bne_eq_false_iff_eq.1 hk2;omega
          rw [hk,yp2] at hg
          have hn:((zd P (j+1+1)).n !=1)=true:=by rw [bne,hg];rfl
          simp only [zi,zb,yor,yf,zk,yg,zb7,eK.r0,e4.r0,e4.r1,e5.r0,yov,w1,pk,h42,w2,w3,w4,qr e4,hlt,hk2,hn,qo,qn,q3,pkA,pkB]
          exact ⟨_,by omega,K7,v3,junk rfl,L⟩
         ·simp only [zi,zb,yor,yf,zk,yg,eK.r0,e4.r0,e4.r1,e5.r0,yov,w1,pk,h42,w2,w3,w4,qr e4,hlt,hk2,qo,qn,q3,pkA,pkB]
          exact ⟨_,by omega,K7,v3,junk rfl,L⟩
        ·simp only [zi,zb,yor,yf,zk,eK.r0,e4.r0,e4.r1,e5.r0,yov,w1,pk,h42,w2,w3,w4,qr e4,hlt,qo,qn,q3,pkA,pkB]
         exact ⟨_,by omega,K7,v3,junk rfl,L⟩
       ·rw [hg] at hRR
        simp only [if_true] at hRR
        have hlt:j+1+1<P.L.length:=by
         by_cases hlt:j+1+1<P.L.length
         ·exact hlt
         ·rw [xx hlt] at hg;cases hg
        rw [ypi,beq_iff_eq] at hg
        have hk2:(((zd P (j+1+1)).kind:Int) !=2)=false:=by rw [hg.1];rfl
        have hn:((zd P (j+1+1)).n !=1)=false:=by rw [bne,hg.2];rfl
        obtain ⟨K5,qn,e5,m5⟩:=ze9 (e4.more [.cells (yd (zd P (j+1+1))) 0 false])
        rw [if_pos hlt] at e5
        obtain ⟨v3,K6,q3,L⟩:=zqm e.lr e.lc t hS mK .inv e5 ((m14.more _).trans m5) hRR
        simp only [op1D,yov] at q3
        simp only [zi,zb,yor,yf,zk,yg,zb7,eK.r0,e4.r0,e4.r1,yov,w1,pk,h42,w2,w3,w4,qr e4,hlt,hk2,hn,qn,q3,pkA,pkB]
        exact ⟨_,by omega,K6,v3,junk rfl,L⟩
    ·rw [h63] at w2 e2 hRR
     simp only [if_true] at e2 hRR
     have hj:=zby (P:=P) (by simp) h63
     obtain ⟨v3,K3,q3,L⟩:=zqm e.lr e.lc t hS mK .maybe e2 m12 hRR
     simp only [op1D,yov] at q3
     cases h42:keyT (zd P j)==[42]
     ·simp only [zi,zb,yf,eK.r0,yov,w1,pk,h42,w2,q3,pkA,pkB]
      exact ⟨_,by omega,K3,v3,junk rfl,L⟩
     ·have:=eq_of_beq h42;have h2:=eq_of_beq h63;rw [this] at h2;cases h2
   ·rw [hst] at hRR
    simp only [if_true] at hRR
    rw [ypi,Bool.not_eq_true'] at hst
    obtain ⟨h42,bgf⟩:=hst
    rw [bgf] at bg
    have hj:=zby (P:=P) (by simp) h42
    have h63:(keyT (zd P j)==[63])=false:=by rw [eq_of_beq h42];rfl
    rw [h63,if_neg yo1] at hRR
    obtain ⟨K2,qn,e2,m2⟩:=ze9 e1
    rw [if_pos hj] at e2
    obtain ⟨v3,K3,q3,L⟩:=zqm e.lr e.lc t hS mK .star e2 (m1.trans m2) hRR
    simp only [op1D,yov] at q3
    simp only [zi,zb,yf,eK.r0,e1.r0,yov,w1,pk,h42,bg,qn,q3,pkA,pkB]
    exact ⟨_,by omega,K3,v3,junk rfl,L⟩
  ·rw [h43] at w1 e1 hRR
   simp only [if_true] at e1 hRR
   have hj:=zby (P:=P) (by simp) h43
   obtain ⟨v3,K3,q3,L⟩:=zqm e.lr e.lc t hS mK .plus e1 m1 hRR
   simp only [op1D,yov] at q3
   simp only [zb,eK.r0,yov,w1,q3,pkA,pkB]
   exact ⟨_,by omega,K3,v3,junk rfl,L⟩
 ·simp only [zb,zy,eK.r0,zlh c0,zy,pkA,pkB]
  exact DoneD.fin e (by rw [hRR];exact ⟨c0,nv,⟨j,eK⟩,mK⟩)
end
theorem TreeA.moved {h h':Heap} {b' p':Nat}:∀{S:Nat→Prop} {b p:Nat} {e:Ex},TreeA h S b p e→(∀z o,S z→z≠b→h[z]?=some o→h'[z]?=some o)→(∀k w o l r s,h[b]?=some (.cells (xe k w p o l r s) 0 false)→h'[b']?=some (.cells (xe k w p' o l r s) 0 false))→¬S b'→
  TreeA h' (fun z=>(S z∧z≠b)∨z=b') b' p' e
 | S,b,p,.name s a w,t,k,hn,hb=>⟨.inr rfl,hn _ _ _ _ _ _ t.2⟩
 | S,b,p,.zero a,t,k,hn,hb=>⟨.inr rfl,hn _ _ _ _ _ _ t.2⟩
 | S,b,p,.par s a e,t,k,hn,hb=>TreeA.moved (e:=e) t k hn hb
 | S,b,p,.box a e,t,k,hn,hb=>by
  obtain ⟨S',c,h1,ho,t',hs⟩:=t
  exact ⟨S',c,.inr rfl,hn _ _ _ _ _ _ ho,t'.keep fun z o hz ho=>k z o (hs z hz).1 (hs z hz).2 ho,fun y hy=>⟨.inl (hs y hy),by rintro rfl;exact hb (hs _ hy).1⟩⟩
 | S,b,p,.un o' e,t,k,hn,hb=>by
  obtain ⟨S',c,h1,ho,t',hs⟩:=t
  exact ⟨S',c,.inr rfl,hn _ _ _ _ _ _ ho,t'.keep fun z o hz ho=>k z o (hs z hz).1 (hs z hz).2 ho,fun y hy=>⟨.inl (hs y hy),by rintro rfl;exact hb (hs _ hy).1⟩⟩
 | S,b,p,.bin s o' l r,t,k,hn,hb=>by
  obtain ⟨S1,S2,c1,c2,h1,ho,t1,t2,hs1,hs2⟩:=t
  exact ⟨S1,S2,c1,c2,.inr rfl,hn _ _ _ _ _ _ ho,t1.keep fun z o hz ho=>k z o (hs1 z hz).1 (hs1 z hz).2.1 ho,t2.keep fun z o hz ho=>k z o (hs2 z hz).1 (hs2 z hz).2 ho,
   fun y hy=>⟨.inl ⟨(hs1 y hy).1,(hs1 y hy).2.1⟩,by rintro rfl;exact hb (hs1 _ hy).1,(hs1 y hy).2.2⟩,fun y hy=>⟨.inl (hs2 y hy),by rintro rfl;exact hb (hs2 _ hy).1⟩⟩
section
variable {P:RP}
theorem ygw (inner:Option (List Tok→PR Ex)) (i:Nat):zmk P.en inner (P.L.drop i)=if keyT (zd P i)==[40] || keyT (zd P i)==[91] then brkP P.en (zd P i) (P.L.drop (i+1)) inner
  else if (zd P i).kind==2&&(zd P i).n==0 then .ok (.zero (zd P i).at_) (P.L.drop (i+1))
  else if bw (zd P i) then .ok (.name false (zd P i).at_ (zd P i).text) (P.L.drop (i+1))
  else .bad (k9 P i) (gt P i):=by
 unfold k9 gt
 by_cases hj:i<P.L.length
 ·have hg:P.L[i]?=some P.L[i]:=yow hj
  have ht:zd P i=P.L[i]:=by unfold zd;rw [hg];rfl
  rw [pv hg,zmk,ht,if_pos hj,if_pos hj]
 ·rw [yo5 (by omega),xx hj,if_neg hj,if_neg hj];rfl
end
section
variable {P:RP}
set_option maxHeartbeats 4000000 in
theorem yaa {h:Heap} {i d a:Nat} (e:Dd P h i d 0 a) (hn:bw (zd P i)=true):∃v h',DF FF yk [pt P.r] h=some (v,h')∧DoneD P h d v h' (.ok (.name false (zd P i).at_ (zd P i).text) (P.L.drop (i+1))):=by
 refine yb xq ?_
 have hlt:=zmq P i hn
 have m0:=Mv.add P h [AObj.cells (yd (zd P i)) 0 false]
 obtain ⟨h1,q,r,m1⟩:=ze9 (e.more [.cells (yd (zd P i)) 0 false])
 rw [if_pos hlt] at r
 have hb:(h++[AObj.cells (yd (zd P i)) 0 false])[h.length]?=some (AObj.cells (yd (zd P i)) 0 false):=by simp
 have hb1:=m1.keep h.length _ hb (by have:=e.lr;omega) (by have:=e.lc;omega)
 have hr:∀j,Heap.read1 h1 ⟨h.length,j,some 0⟩=(yd (zd P i))[j]?:=fun j=>zr hb1
 unfold bw at hn
 rw [ypi,beq_iff_eq,Bool.not_eq_true'] at hn
 have hk:(((zd P i).kind:Int)==1)=true:=by rw [hn.1];rfl
 have hf:yp [.int .i64 0,str [],.int .i64 0,.int .i64 0,.pointer none,.pointer none,.bool false] [(0,1,.int .i64 1),(1,1,str (zd P i).text),(2,1,.int .i64 ((zd P i).at_:Int)),(3,1,.int .i64 ((zd P i).at_:Int))]=some (xe 1 (zd P i).text (zd P i).at_ (zd P i).at_ nilP nilP false):=by
  rw [zao _ (by simp),ym _ (by simp),zao _ (by simp),zao _ (by simp),po];rfl
 simp only [z7,zi,zb,yor,yos,zy,zg,ze,zf,yo7,zk,yg,y7,zcn,e.r0,e.r1,yov,qr e,hlt,hk,zfz,hn.2,q,hr,hf,zg,ze,zdo,zy,pkA,pkB]
 have l1:h.length+1≤h1.length:=by have:=m1.le;simpa using this
 exact DoneD.fin e ⟨h1.length,fun z=>z=h1.length,i+1,a,rfl,⟨rfl,by simp;rfl⟩,fun z hz=>by subst hz;simp;omega,rfl,r.more _,(m0.trans m1).more _⟩
set_option maxHeartbeats 4000000 in
theorem yal {h:Heap} {i d a:Nat} (e:Dd P h i d 0 a) (hz:((zd P i).kind==2&&(zd P i).n==0)=true):∃v h',DF FF yk [pt P.r] h=some (v,h')∧DoneD P h d v h' (.ok (.zero (zd P i).at_) (P.L.drop (i+1))):=by
 refine yb xq ?_
 rw [ypi,beq_iff_eq] at hz
 have hlt:i<P.L.length:=by
  by_cases hlt:i<P.L.length
  ·exact hlt
  ·rw [xx hlt] at hz;cases hz.1
 have m0:=Mv.add P h [AObj.cells (yd (zd P i)) 0 false]
 obtain ⟨h1,q,r,m1⟩:=ze9 (e.more [.cells (yd (zd P i)) 0 false])
 rw [if_pos hlt] at r
 have hb:(h++[AObj.cells (yd (zd P i)) 0 false])[h.length]?=some (AObj.cells (yd (zd P i)) 0 false):=by simp
 have hb1:=m1.keep h.length _ hb (by have:=e.lr;omega) (by have:=e.lc;omega)
 have hr:∀j,Heap.read1 h1 ⟨h.length,j,some 0⟩=(yd (zd P i))[j]?:=fun j=>zr hb1
 have hk1:(((zd P i).kind:Int)==1)=false:=by rw [hz.1];rfl
 have hk2:(((zd P i).kind:Int)==2)=true:=by rw [hz.1];rfl
 have hf:yp [.int .i64 0,str [],.int .i64 0,.int .i64 0,.pointer none,.pointer none,.bool false] [(0,1,.int .i64 2),(2,1,.int .i64 ((zd P i).at_:Int))]=some (xe 2 [] (zd P i).at_ 0 nilP nilP false):=by
  rw [zao _ (by simp),zao _ (by simp),po];rfl
 simp only [z7,zi,zb,yor,yos,zy,zg,ze,zf,yo7,zk,yg,zb7,zcn,e.r0,e.r1,yov,qr e,hlt,hk1,hk2,hz.2,q,hr,hf,zg,ze,zdo,zy,pkA,pkB]
 have l1:h.length+1≤h1.length:=by have:=m1.le;simpa using this
 exact DoneD.fin e ⟨h1.length,fun z=>z=h1.length,i+1,a,rfl,⟨rfl,by simp;rfl⟩,fun z hz=>by subst hz;simp;omega,rfl,r.more _,(m0.trans m1).more _⟩
end
section
variable {P:RP}
set_option maxHeartbeats 8000000 in
theorem yax {h:Heap} {i d a:Nat} (e:Dd P h i d 0 a) (hb:(keyT (zd P i)==[40] || keyT (zd P i)==[91])=false) (hz:((zd P i).kind==2&&(zd P i).n==0)=false) (hn:bw (zd P i)=false):∃v h',DF FF yk [pt P.r] h=some (v,h')∧DoneD P h d v h' (.bad (k9 P i) (gt P i)):=by
 refine yb xq ?_
 have i40:=zp4 P i (m:=40) (by decide)
 have i91:=zp4 P i (m:=91) (by decide)
 rw [ypu,←i40,←i91] at hb
 obtain ⟨h1,q,r,m1⟩:=ztd (e.more [.cells (yd (zd P i)) 0 false])
 have m:=(Mv.add P h [AObj.cells (yd (zd P i)) 0 false]).trans m1
 have dn:DoneD P h d nilP (AM.finish h nilP h1) (.bad (k9 P i) (gt P i)):=DoneD.fin e ⟨wq P i,.inl rfl,⟨i,r⟩,m⟩
 by_cases hlt:i<P.L.length
 ·cases k1:(((zd P i).kind:Int)==1)
  ·cases k2:(((zd P i).kind:Int)==2)
   ·cases k3:(((zd P i).kind:Int)==3)
    ·simp only [z7,zi,zb,yor,yos,zy,zf,yo7,zk,yg,e.r0,e.r1,yov,qr e,hlt,k1,k2,k3,q,zy,pkA,pkB]
     exact dn
    ·rw [k3,yp2,yp2] at hb
     simp only [z7,zi,zb,yor,yos,zy,zf,yf,yo7,zk,yg,y7,e.r0,e.r1,yov,qr e,hlt,k1,k2,k3,hb.1,hb.2,q,zy,pkA,pkB]
     exact dn
   ·have hk:((zd P i).kind==2)=true:=by rw [beq_iff_eq];have:=eq_of_beq k2;omega
    have k3:(((zd P i).kind:Int)==3)=false:=by rw [eq_of_beq k2];rfl
    rw [hk,yp2] at hz
    simp only [z7,zi,zb,yor,yos,zy,zf,yo7,zk,yg,zb7,e.r0,e.r1,yov,qr e,hlt,k1,k2,k3,hz,q,zy,pkA,pkB]
    exact dn
  ·have hk:((zd P i).kind==1)=true:=by rw [beq_iff_eq];have:=eq_of_beq k1;omega
   have k2:(((zd P i).kind:Int)==2)=false:=by rw [eq_of_beq k1];rfl
   have k3:(((zd P i).kind:Int)==3)=false:=by rw [eq_of_beq k1];rfl
   unfold bw at hn
   rw [hk,yp2,Bool.not_eq_false'] at hn
   simp only [z7,zi,zb,yor,yos,zy,zf,yo7,zk,yg,y7,e.r0,e.r1,yov,qr e,hlt,k1,k2,k3,zfz,hn,q,zy,pkA,pkB]
   exact dn
 ·simp only [z7,zi,zb,yor,yos,zy,zf,yo7,zk,e.r0,e.r1,yov,qr e,hlt,q,zy,pkA,pkB]
  exact dn
end
section
variable {P:RP}
theorem ydc (cl:Bys) (hcl:cl≠[]) (x:Ex) (j:Nat):zly P.en cl x (P.L.drop j)=if keyT (zd P j)==cl then .ok x (P.L.drop (j+1)) else .bad (k9 P j) (gt P j):=by
 unfold k9 gt
 by_cases hj:j<P.L.length
 ·have hg:P.L[j]?=some P.L[j]:=yow hj
  have ht:zd P j=P.L[j]:=by unfold zd;rw [hg];rfl
  rw [pv hg,zly,ht,if_pos hj,if_pos hj]
 ·rw [yo5 (by omega),xx hj,zbb,if_neg hj,if_neg hj]
  have:(([]:Bys)==cl)=false:=by rw [beq_eq_false_iff_ne];exact fun h=>hcl h.symm
  rw [this];rfl
theorem yk1 {t:Tok} (h:keyT t=[40]∨keyT t=[91]) (hm:∀m:UInt8,(m=40∨m=91)→(((t.kind:Int)==3)&&t.text==[m])=(keyT t==[m])):((t.kind:Int)==1)=false∧((t.kind:Int)==2)=false∧((t.kind:Int)==3)=true∧t.text=keyT t:=by
 rcases h with h | h
 ·have:=hm 40 (.inl rfl)
  rw [h] at this
  simp only [beq_self_eq_true,ypi] at this
  refine ⟨?_,?_,this.1,by rw [h];exact eq_of_beq this.2⟩
  ·rw [eq_of_beq this.1];rfl
  ·rw [eq_of_beq this.1];rfl
 ·have:=hm 91 (.inr rfl)
  rw [h] at this
  simp only [beq_self_eq_true,ypi] at this
  refine ⟨?_,?_,this.1,by rw [h];exact eq_of_beq this.2⟩
  ·rw [eq_of_beq this.1];rfl
  ·rw [eq_of_beq this.1];rfl
theorem yku (i:Nat) (h:keyT (zd P i)=[40]∨keyT (zd P i)=[91]):(((zd P i).kind:Int)==1)=false∧(((zd P i).kind:Int)==2)=false∧(((zd P i).kind:Int)==3)=true∧(zd P i).text=keyT (zd P i):=
 yk1 h fun m hm=>by rcases hm with rfl | rfl <;> exact zp4 P i (by decide)
theorem zzd {h:Heap} {i d a:Nat} (e:Dd P h i d 0 a) (hd:32≤d) (hb:keyT (zd P i)=[40]∨keyT (zd P i)=[91]):∃v h',DF FF yk [pt P.r] h=some (v,h')∧DoneD P h d v h' (.bad 2 (zd P i).at_):=by
 refine yb xq ?_
 obtain ⟨k1,k2,k3,kt⟩:=yku i hb
 have hlt:i<P.L.length:=by
  rcases hb with hb | hb
  ·exact zby (m:=[40]) (by simp) (by rw [hb];rfl)
  ·exact zby (m:=[91]) (by simp) (by rw [hb];rfl)
 have c1:((32:Int)≤(d:Int))=True:=by simp;omega
 obtain ⟨h1,q,r,m1⟩:=zwc (e.more [.cells (yd (zd P i)) 0 false]) 2 (zd P i).at_ (by omega)
 simp only [yov] at q
 have m:=(Mv.add P h [AObj.cells (yd (zd P i)) 0 false]).trans m1
 have dn:DoneD P h d nilP (AM.finish h nilP h1) (.bad 2 (zd P i).at_):=DoneD.fin e ⟨by omega,.inl rfl,⟨i,r⟩,m⟩
 rcases hb with hb | hb
 ·have t40:((zd P i).text==[40])=true:=by rw [kt,hb];rfl
  simp only [z7,zi,zb,yor,yos,zy,zf,yf,yo7,zk,yg,y7,zcn,e.r0,e.r1,yov,qr e,hlt,k1,k2,k3,t40,c1,q,zy,pkA,pkB]
  exact dn
 ·have t40:((zd P i).text==[40])=false:=by rw [kt,hb];rfl
  have t91:((zd P i).text==[91])=true:=by rw [kt,hb];rfl
  simp only [z7,zi,zb,yor,yos,zy,zf,yf,yo7,zk,yg,y7,zcn,e.r0,e.r1,yov,qr e,hlt,k1,k2,k3,t40,t91,c1,q,zy,pkA,pkB]
  exact dn
theorem zx5 {h:Heap} {i d a:Nat} {f:List Tok→PR Ex} (rd:zgq P ya (d+1) f) (e:Dd P h i d 0 a) (hlt:i<P.L.length):
  ∃K1 K2 v K3 K4,DF FF yi [pt P.c] h=some (tup [agg (yd (zd P i)),.bool true],K1)∧Heap.read1 K1 ⟨P.r,4,some 0⟩=some (.int .i64 (d:Int))∧
   Heap.write1 K1 ⟨P.r,4,some 0⟩ (.int .i64 ((d+1:Nat):Int))=some K2∧DF FF ya [pt P.r] K2=some (v,K3)∧Heap.read1 K3 ⟨P.r,4,some 0⟩=some (.int .i64 ((d+1:Nat):Int))∧
   Heap.write1 K3 ⟨P.r,4,some 0⟩ (.int .i64 (d:Int))=some K4∧Mv P h K4∧(∀j,Heap.read1 K1 ⟨P.r,j,some 0⟩=([pt P.c,.int .i64 0,.int .i64 (a:Int),.int .i64 (P.en:Int),.int .i64 (d:Int)]:List Value)[j]?)∧
   (match f (P.L.drop (i+1)) with
    | .ok x r=>∃b S j a',v=pt b∧TreeA K4 S b x.pl x∧(∀z,S z→h.length≤z∧z<K4.length)∧r=P.L.drop j∧Dd P K4 j d 0 a'
    | .bad c p=>c≠0∧NV K4 v∧∃j,Dd P K4 j d c p):=by
 obtain ⟨K1,q1,e1,m1⟩:=ze9 e
 simp only [hlt,decide_true,if_true] at q1 e1
 obtain ⟨e2,m2⟩:=e1.setR (d+1) 0 a
 obtain ⟨v,K3,q3,D⟩:=rd _ _ _ e2
 have w1:=e1.wr0 4 (by decide) (.int .i64 ((d+1:Nat):Int))
 cases hf:f (P.L.drop (i+1)) with
 | bad c p=>
  rw [hf] at D
  obtain ⟨c0,nv,⟨j,e3⟩,m3⟩:=D
  obtain ⟨e4,m4⟩:=e3.setR d c p
  exact ⟨K1,_,v,K3,_,q1,e1.r0 4,w1,q3,e3.r0 4,e3.wr0 4 (by decide) _,((m1.trans m2).trans m3).trans m4,e1.r0,c0,nv.mv e3 m4,j,e4⟩
 | ok x r=>
  rw [hf] at D
  obtain ⟨b,S,j,a',rfl,t,hS,hr,e3,m3⟩:=D
  obtain ⟨e4,m4⟩:=e3.setR d 0 a'
  have l12:=(m1.trans m2).le
  refine ⟨K1,_,_,K3,_,q1,e1.r0 4,w1,q3,e3.r0 4,e3.wr0 4 (by decide) _,((m1.trans m2).trans m3).trans m4,e1.r0,b,S,j,a',rfl,t.keep fun z o hz ho=>m4.keep z o ho ?_ ?_,fun z hz=> ?_,hr,e4⟩
  ·have:=(hS z hz).1;have:=e.lr;omega
  ·have:=(hS z hz).1;have:=e.lc;omega
  ·have:=hS z hz;simp only [yo3] at *;omega
end
section
variable {P:RP}
theorem yj9 {K:Heap} {b k k' a a' o o' q:Nat} {w w':Bys} {l l' r r':Value} {s s':Bool} (h1:K[b]?=some (.cells (xe k w a o l r s) 0 false)) (h2:K[b]?=some (.cells (xe k' w' a' o' l' r' s') 0 false)):(K++[AObj.cells (xe k w q o l r s) 0 false])[K.length]?=some (.cells (xe k' w' q o' l' r' s') 0 false):=by
 have:=h1.symm.trans h2
 simp only [yot,AObj.cells.injEq,and_true] at this
 have:=congrArg (fun x=>x.set 2 (Value.int .i64 (q:Int))) this
 simp only [zlu] at this
 rw [this];simp
theorem zye {h H0 K4:Heap} {d:Nat} {v:Value} {R:PR Ex} (p0:Mv P h H0) (hle:h.length≤H0.length) (m4:Mv P H0 K4) (lr:P.r<h.length) (lc:P.c<h.length) (cl:Bys) (hcl:cl≠[]) (mk:Ex→Ex)
  (D:match R with
    | .ok x r=>∃b S j a',v=pt b∧TreeA K4 S b x.pl x∧(∀z,S z→H0.length≤z∧z<K4.length)∧r=P.L.drop j∧Dd P K4 j d 0 a'
    | .bad c p=>c≠0∧NV K4 v∧∃j,Dd P K4 j d c p):
  ∃K5,DF FF yj [pt P.r,str cl] K4=some (tup [],K5)∧Mv P H0 K5∧((∃c p j,v=nilP∧brP P.en cl mk R=.bad c p∧c≠0∧Dd P K5 j d c p)∨
   ∃b k w p o l r s,v=pt b∧K5[b]?=some (.cells (xe k w p o l r s) 0 false)∧
    ((∃c p' j,brP P.en cl mk R=.bad c p'∧c≠0∧Dd P K5 j d c p')∨∃x S j a',brP P.en cl mk R=.ok (mk x) (P.L.drop j)∧TreeA K5 S b x.pl x∧p=x.pl∧(∀z,S z→H0.length≤z∧z<K5.length)∧Dd P K5 j d 0 a')):=by
 cases R with
 | bad c p=>
  obtain ⟨c0,nv,j,e4⟩:=D
  refine ⟨K4,zw8 e4 c0 cl,m4,?_⟩
  rcases nv with rfl | ⟨b,k,w,q,o,l,r,s,rfl,hb⟩
  ·exact .inl ⟨c,p,j,rfl,rfl,c0,e4⟩
  ·exact .inr ⟨b,k,w,q,o,l,r,s,rfl,hb,.inl ⟨c,p,j,rfl,c0,e4⟩⟩
 | ok x r=>
  obtain ⟨b,S,j,a',rfl,t,hS,rfl,e4⟩:=D
  obtain ⟨K5,q5,e5,m5⟩:=zwb e4 hcl
  have t5:TreeA K5 S b x.pl x:=t.keep fun z o hz ho=>m5.keep z o ho (by have:=(hS z hz).1;omega) (by have:=(hS z hz).1;omega)
  obtain ⟨k,w,o,l,r,hbS,hb⟩:=t5.root
  refine ⟨K5,q5,m4.trans m5,.inr ⟨b,k,w,_,o,l,r,_,rfl,hb,?_⟩⟩
  have hR:brP P.en cl mk (.ok x (P.L.drop j))=zly P.en cl (mk x) (P.L.drop j):=rfl
  rw [hR,ydc cl hcl]
  cases hk:keyT (zd P j)==cl
  ·rw [hk,if_neg yo1] at e5
   exact .inl ⟨_,_,j,rfl,wq P j,e5⟩
  ·rw [hk,if_pos rfl] at e5
   exact .inr ⟨x,S,j+1,a',rfl,t5,rfl,fun z hz=>by have:=hS z hz;have:=m5.le;omega,e5⟩
set_option maxHeartbeats 8000000 in
theorem zu1 {h:Heap} {i d a:Nat} {f:List Tok→PR Ex} (rd:zgq P ya (d+1) f) (e:Dd P h i d 0 a) (hd:d<32) (hb:keyT (zd P i)=[40]):
  ∃v h',DF FF yk [pt P.r] h=some (v,h')∧DoneD P h d v h' (brP P.en [41] (.par false (zd P i).at_) (f (P.L.drop (i+1)))):=by
 refine yb xq ?_
 obtain ⟨k1,k2,k3,kt⟩:=yku i (.inl hb)
 have hlt:i<P.L.length:=zby (m:=[40]) (by simp) (by rw [hb];rfl)
 have t40:((zd P i).text==[40])=true:=by rw [kt,hb];rfl
 have c1:((32:Int)≤(d:Int))=False:=by simp;omega
 have p0:=Mv.add P h [AObj.cells (yd (zd P i)) 0 false]
 obtain ⟨K1,K2,v,K3,K4,q1,r1,w1,q3,r3,w3,m4,rr,D⟩:=zx5 rd (e.more [.cells (yd (zd P i)) 0 false]) hlt
 obtain ⟨K5,q5,m5,D5⟩:=zye p0 (by simp) m4 e.lr e.lc [41] (by simp) (.par false (zd P i).at_) D
 have hb0:(h++[AObj.cells (yd (zd P i)) 0 false])[h.length]?=some (AObj.cells (yd (zd P i)) 0 false):=by simp
 have ne1:h.length≠P.r:=by have:=e.lr;omega
 have ne2:h.length≠P.c:=by have:=e.lc;omega
 have rt4:∀j,Heap.read1 K4 ⟨h.length,j,some 0⟩=(yd (zd P i))[j]?:=fun j=>zr (m4.keep _ _ hb0 ne1 ne2)
 have rt5:∀L j,Heap.read1 (K5++L) ⟨h.length,j,some 0⟩=(yd (zd P i))[j]?:=fun L j=>zr (zm L (m5.keep _ _ hb0 ne1 ne2))
 have wr1:IntKind.i64.wrap ((d:Int)+1)=((d+1:Nat):Int):=zs (k:=d) (by omega)
 have wr2:IntKind.i64.wrap (((d+1:Nat):Int) - 1)=(d:Int):=by
  rw [show (((d+1:Nat):Int) - 1)=(d:Int) by omega];exact zkf (by omega)
 have hH:h.length≤(h++[AObj.cells (yd (zd P i)) 0 false]).length:=by simp
 have m05:=p0.trans m5
 rcases D5 with ⟨c,p,j,rfl,hR,c0,e5⟩ | ⟨b,k,w,p,o,l,r,s,rfl,hbn,D5⟩
 ·simp only [z7,zi,zb,yor,yos,zy,yo4,yz,zf,yf,yo7,zk,yg,y7,e.r0,e.r1,yov,qr e,hlt,k1,k2,k3,t40,c1,q1,r1,wr1,w1,q3,r3,wr2,w3,rt4,q5,xm,zl,zy,pkA,pkB]
  exact DoneD.fin e (by rw [hR];exact ⟨c0,.inl rfl,⟨j,e5⟩,m05⟩)
 ·have rn:Heap.read K5 ⟨b,0,some 0⟩ 7=some (xe k w p o l r s):=zkc hbn (zdo ..)
  simp only [z7,zi,zb,ypc,yor,yos,zy,yo4,yz,zf,yf,yo7,zk,yg,y7,zcn,e.r0,e.r1,yov,qr e,hlt,k1,k2,k3,t40,c1,q1,r1,wr1,w1,q3,r3,wr2,w3,rt4,rt5,q5,zj,zl,rn,zdo,zlu,zy,pkA,pkB]
  rcases D5 with ⟨c,p',j,hR,c0,e5⟩ | ⟨x,S,j,a',hR,t5,rfl,hS,e5⟩
  ·exact DoneD.fin e (by rw [hR];exact ⟨c0,.inr ⟨K5.length,k,w,(zd P i).at_,o,l,r,s,rfl,by simp⟩,⟨j,e5.more _⟩,m05.more _⟩)
  ·refine DoneD.fin e ?_
   rw [hR]
   have nS:¬S K5.length:=fun hz=>by have:=(hS _ hz).2;omega
   refine ⟨K5.length,fun z=>(S z∧z≠b)∨z=K5.length,j,a',rfl,?_,?_,rfl,e5.more _,m05.more _⟩
   ·exact TreeA.moved (e:=x) (p':=(zd P i).at_) t5 (fun z o' _ _ ho=>zm _ ho) (fun k' w' o' l' r' s' hk=>yj9 hbn hk) nS
   ·rintro z (⟨hz,_⟩ | rfl)
    ·have:=hS z hz;simp only [yo8,List.length_singleton];simp at this;omega
    ·have:=m5.le;simp only [yo8,List.length_singleton] at this ⊢;omega
set_option maxHeartbeats 8000000 in
theorem zt1 {h:Heap} {i d a:Nat} {f:List Tok→PR Ex} (rd:zgq P ya (d+1) f) (e:Dd P h i d 0 a) (hd:d<32) (hb:keyT (zd P i)=[91]):
  ∃v h',DF FF yk [pt P.r] h=some (v,h')∧DoneD P h d v h' (brP P.en [93] (.box (zd P i).at_) (f (P.L.drop (i+1)))):=by
 refine yb xq ?_
 obtain ⟨k1,k2,k3,kt⟩:=yku i (.inr hb)
 have hlt:i<P.L.length:=zby (m:=[91]) (by simp) (by rw [hb];rfl)
 have t40:((zd P i).text==[40])=false:=by rw [kt,hb];rfl
 have t91:((zd P i).text==[91])=true:=by rw [kt,hb];rfl
 have c1:((32:Int)≤(d:Int))=False:=by simp;omega
 have p0:=Mv.add P h [AObj.cells (yd (zd P i)) 0 false]
 obtain ⟨K1,K2,v,K3,K4,q1,r1,w1,q3,r3,w3,m4,rr,D⟩:=zx5 rd (e.more [.cells (yd (zd P i)) 0 false]) hlt
 obtain ⟨K5,q5,m5,D5⟩:=zye p0 (by simp) m4 e.lr e.lc [93] (by simp) (.box (zd P i).at_) D
 have hb0:(h++[AObj.cells (yd (zd P i)) 0 false])[h.length]?=some (AObj.cells (yd (zd P i)) 0 false):=by simp
 have ne1:h.length≠P.r:=by have:=e.lr;omega
 have ne2:h.length≠P.c:=by have:=e.lc;omega
 have rt4:∀j,Heap.read1 K4 ⟨h.length,j,some 0⟩=(yd (zd P i))[j]?:=fun j=>zr (m4.keep _ _ hb0 ne1 ne2)
 have rt5:∀L j,Heap.read1 (K5++L) ⟨h.length,j,some 0⟩=(yd (zd P i))[j]?:=fun L j=>zr (zm L (m5.keep _ _ hb0 ne1 ne2))
 have wr1:IntKind.i64.wrap ((d:Int)+1)=((d+1:Nat):Int):=zs (k:=d) (by omega)
 have wr2:IntKind.i64.wrap (((d+1:Nat):Int) - 1)=(d:Int):=by
  rw [show (((d+1:Nat):Int) - 1)=(d:Int) by omega];exact zkf (by omega)
 have m05:=p0.trans m5
 rcases D5 with ⟨c,p,j,rfl,hR,c0,e5⟩ | ⟨b,k,w,p,o,l,r,s,rfl,hbn,D5⟩
 ·have q6:=zys 12 K5
  simp only [yov] at q6
  simp only [z7,zi,zb,yor,yos,zy,yo4,yz,zf,yf,yo7,zk,yg,y7,e.r0,e.r1,yov,qr e,hlt,k1,k2,k3,t40,t91,c1,q1,r1,wr1,w1,q3,r3,wr2,w3,rt4,q5,q6,xm,zl,zy,pkA,pkB]
  exact DoneD.fin e (by rw [hR];exact ⟨c0,.inl rfl,⟨j,e5⟩,m05⟩)
 ·have q6:=ycu 12 hbn
  simp only [yov] at q6
  simp only [z7,zi,zb,ypc,yor,yos,zy,yo4,yz,zf,yf,yo7,zk,yg,y7,zcn,e.r0,e.r1,yov,qr e,hlt,k1,k2,k3,t40,t91,c1,q1,r1,wr1,w1,q3,r3,wr2,w3,rt4,rt5,q5,q6,zj,zl,zdo,zlu,zy,pkA,pkB]
  rcases D5 with ⟨c,p',j,hR,c0,e5⟩ | ⟨x,S,j,a',hR,t5,rfl,hS,e5⟩
  ·exact DoneD.fin e (by rw [hR];exact ⟨c0,.inr ⟨K5.length,12,[],(zd P i).at_,0,pt b,nilP,false,rfl,by simp⟩,⟨j,e5.more _⟩,m05.more _⟩)
  ·refine DoneD.fin e ?_
   rw [hR]
   have nS:¬S K5.length:=fun hz=>by have:=(hS _ hz).2;omega
   refine ⟨K5.length,fun z=>S z∨z=K5.length,j,a',rfl,⟨S,b,.inr rfl,by simp;rfl,t5.keep fun z o _ ho=>zm _ ho,fun y hy=>⟨.inl hy,by rintro rfl;exact nS hy⟩⟩,?_,rfl,e5.more _,m05.more _⟩
   rintro z (hz | rfl)
   ·have:=hS z hz;simp only [yo8,List.length_singleton];simp at this;omega
   ·have:=m5.le;simp only [yo8,List.length_singleton] at this ⊢;omega
theorem yjt {d:Nat} {inner:Option (List Tok→PR Ex)} (hin:match inner with | some f=>d<32∧zgq P ya (d+1) f | none=>32≤d):zgq P yk d (zmk P.en inner):=by
 intro h i a e
 rw [ygw]
 cases hb:(keyT (zd P i)==[40] || keyT (zd P i)==[91])
 ·simp only [yoy,if_false]
  cases hz:((zd P i).kind==2&&(zd P i).n==0)
  ·simp only [yoy,if_false]
   cases hn:bw (zd P i)
   ·simp only [yoy,if_false];exact yax e hb hz hn
   ·simp only [if_true];exact yaa e hn
  ·simp only [if_true];exact yal e hz
 ·simp only [if_true]
  rw [yqa,beq_iff_eq,beq_iff_eq] at hb
  unfold brkP
  cases inner with
  | none=>exact zzd e hin hb
  | some f=>
   rcases hb with hb | hb
   ·rw [hb];simp only [beq_self_eq_true,if_true];exact zu1 hin.2 e hin.1 hb
   ·rw [hb];simp only [show (([91]:Bys)==[40])=false from rfl,yoy,if_false];exact zt1 hin.2 e hin.1 hb
theorem zyk {d:Nat} {inner:Option (List Tok→PR Ex)} (hin:match inner with | some f=>d<32∧zgq P ya (d+1) f | none=>32≤d) (hs:∀f,inner=some f→Shr f):zgq P ya d (ydf P.en (zmk P.en inner)):=by
 have s0:=zko (e:=P.en) hs
 have s1:=zoa (e:=P.en) s0
 have s2:=znr s1
 exact ykn (zbm (zbm s2)) (ykx (zbm s2) (yge s2 (zz2 (zzb s0) (ylm s0 (yjt hin)))))
theorem zrx:∀(n d:Nat),d+n=32→zgq P ya d (zhj P.en n)
 | 0,d,h=>zyk (inner:=none) (by show 32≤d;omega) (fun f h=>by cases h)
 | n+1,d,h=>zyk (inner:=some (zhj P.en n)) ⟨by omega,zrx n (d+1) (by omega)⟩ (fun f h=>by cases h;exact zdz P.en n)
end
def gvA (g:Gv) (b:Nat):List Value:=[str g.name,.int .i64 (g.at_:Int),pt b]
def BsP (h:Heap):(Nat→Prop)→List Nat→List Gv→Prop
 | _,[],[]=>True
 | S,b::bs,g::gs=>∃S1 S2,TreeA h S1 b g.e.pl g.e∧BsP h S2 bs gs∧(∀z,S1 z→S z∧¬S2 z)∧∀z,S2 z→S z
 | _,_,_=>False
theorem BsP.keep {h h':Heap}:∀{S:Nat→Prop} {bs:List Nat} {gs:List Gv},BsP h S bs gs→(∀b o,S b→h[b]?=some o→h'[b]?=some o)→BsP h' S bs gs
 | S,[],[],e,k=>trivial
 | S,b::bs,g::gs,e,k=>by
  obtain ⟨S1,S2,t,r,h1,h2⟩:=e
  exact ⟨S1,S2,t.keep fun b o hb=>k b o (h1 b hb).1,r.keep fun b o hb=>k b o (h2 b hb),h1,h2⟩
 | S,[],_::_,e,k=>e.elim
 | S,_::_,[],e,k=>e.elim
theorem BsP.len {h:Heap}:∀{S:Nat→Prop} {bs:List Nat} {gs:List Gv},BsP h S bs gs→bs.length=gs.length
 | S,[],[],e=>rfl
 | S,b::bs,g::gs,e=>by obtain ⟨S1,S2,t,r,h1,h2⟩:=e;simp [r.len]
 | S,[],_::_,e=>e.elim
 | S,_::_,[],e=>e.elim
theorem BsP.snoc {h:Heap} {T:Nat→Prop} {b:Nat} {g:Gv} (t:TreeA h T b g.e.pl g.e):∀{S:Nat→Prop} {bs:List Nat} {gs:List Gv},BsP h S bs gs→(∀z,S z→¬T z)→BsP h (fun z=>S z∨T z) (bs++[b]) (gs++[g])
 | S,[],[],e,hd=>⟨T,fun _=>False,t,trivial,fun z hz=>⟨.inr hz,id⟩,fun z hz=>hz.elim⟩
 | S,w::bs,f::gs,e,hd=>by
  obtain ⟨S1,S2,t1,r,h1,h2⟩:=e
  exact ⟨S1,fun z=>S2 z∨T z,t1,r.snoc t fun z hz=>hd z (h2 z hz),fun z hz=>⟨.inl (h1 z hz).1,fun h=>h.elim (h1 z hz).2 (hd z (h1 z hz).1)⟩,fun z hz=>hz.imp (h2 z) id⟩
 | S,[],_::_,e,hd=>e.elim
 | S,_::_,[],e,hd=>e.elim
def z5:List Value:=[.slice none 0 0,.bool false,str [],str [],nilP]
def StA (h:Heap) (T:Nat→Prop) (row:List Value):Stm→Prop
 | .lets rc gs=>∃s bs S,row=[s,.bool rc,str [],str [],nilP]∧Sl h s 3 (List.zipWith gvA gs bs)∧BsP h S bs gs∧(∀z,S z→T z∧blk s≠some z)∧∀b,blk s=some b→T b
 | .chk k x as_=>∃b,row=[.slice none 0 0,.bool false,str (ckS k),str as_,pt b]∧TreeA h T b x.pl x
theorem StA.keep {h h':Heap} {T:Nat→Prop} {row:List Value} {s:Stm} (e:StA h T row s) (k:∀b o,T b→h[b]?=some o→h'[b]?=some o):StA h' T row s:=by
 cases s with
 | lets rc gs=>
  obtain ⟨s,vs,S,hr,hs,hg,h1,h2⟩:=e
  exact ⟨s,vs,S,hr,hs.keep fun b hb o ho=>k b o (h2 b hb) ho,hg.keep fun b o hb=>k b o (h1 b hb).1,h1,h2⟩
 | chk c x as_=>
  obtain ⟨v,hr,ht⟩:=e
  exact ⟨v,hr,ht.keep k⟩
theorem TreeA.weak {h:Heap}:∀{S S':Nat→Prop} {b p:Nat} {e:Ex},(∀z,S z→S' z)→TreeA h S b p e→TreeA h S' b p e
 | S,S',b,p,.name s a w,hs,t=>⟨hs _ t.1,t.2⟩
 | S,S',b,p,.zero a,hs,t=>⟨hs _ t.1,t.2⟩
 | S,S',b,p,.par s a e,hs,t=>TreeA.weak (e:=e) hs t
 | S,S',b,p,.box a e,hs,t=>by obtain ⟨S1,c,hb,ho,t',h1⟩:=t;exact ⟨S1,c,hs _ hb,ho,t',fun y hy=>⟨hs y (h1 y hy).1,(h1 y hy).2⟩⟩
 | S,S',b,p,.un o e,hs,t=>by obtain ⟨S1,c,hb,ho,t',h1⟩:=t;exact ⟨S1,c,hs _ hb,ho,t',fun y hy=>⟨hs y (h1 y hy).1,(h1 y hy).2⟩⟩
 | S,S',b,p,.bin s o l r,hs,t=>by
  obtain ⟨S1,S2,c1,c2,hb,ho,t1,t2,h1,h2⟩:=t
  exact ⟨S1,S2,c1,c2,hs _ hb,ho,t1,t2,fun z hz=>⟨hs z (h1 z hz).1,(h1 z hz).2⟩,fun z hz=>⟨hs z (h2 z hz).1,(h2 z hz).2⟩⟩
theorem StA.len {h:Heap} {T:Nat→Prop} {row:List Value} {s:Stm} (e:StA h T row s):row.length=5:=by
 cases s with
 | lets rc gs=>obtain ⟨s,vs,S,hr,_⟩:=e;rw [hr];rfl
 | chk c x as_=>obtain ⟨v,hr,ht⟩:=e;rw [hr];rfl
section
variable {P:RP}
theorem Dd.upd {h K:Heap} {i d x a i' d' x' a':Nat} (e:Dd P h i d x a) (e':Dd P K i' d' x' a') {b:Nat} (hb:h.length≤b) (o:AObj):Dd P (K.set b o) i' d' x' a':=by
 have lr:=e.lr;have lc:=e.lc
 exact ⟨by rw [you (by omega)];exact e'.hr,by rw [you (by omega)];exact e'.hc,
  e'.sc.keep fun c hc o' ho=>by have:=e.sc.lt hc;rw [you (by omega)];exact ho,e'.le⟩
theorem yeo {h K3:Heap} {i k d x a d' x' a1:Nat} {rows:List (List Value)} {s:Value} {rc:Bool} (row:List Value) (hrow:row.length=3) (e:Dd P h i d' x' a1) (eK:Dd P K3 k d x a) (h0:K3[h.length]?=some (.cells z5 0 false))
  (h1:K3[h.length+1]?=some (.cells [s,.bool rc,str [],str [],nilP] 0 false)) (own:Own [] K3 s 3 rows) (hb:∀b,blk s=some b→h.length+2≤b) (room:rows.length≤10000) (mK:Mv P h K3):
  ∃a' n' c' K4 E,wu (K3++[.cells row 0 false]) 3 32 s (za5 (K3++[.cells row 0 false]) 3 (.slice (some ⟨K3.length,0,some 0⟩) 1 3))=some (.slice a' n' c',K4)∧
   K4[h.length+1]?=some (.cells [s,.bool rc,str [],str [],nilP] 0 false)∧E=K4.set (h.length+1) (.cells [.slice a' n' c',.bool rc,str [],str [],nilP] 0 false)∧
   Dd P E k d x a∧E[h.length]?=some (.cells z5 0 false)∧E[h.length+1]?=some (.cells [.slice a' n' c',.bool rc,str [],str [],nilP] 0 false)∧
   Own [] E (.slice a' n' c') 3 (rows++[row])∧(∀b,blk (.slice a' n' c')=some b→h.length+2≤b)∧
   (∀z,z<K3.length→blk s≠some z→blk (.slice a' n' c')≠some z)∧Mv P h E∧
   (∀b o,K3[b]?=some o→b≠h.length+1→blk s≠some b→E[b]?=some o)∧K3.length≤E.length:=by
 have lr:=e.lr;have lc:=e.lc
 obtain ⟨s',K4,q1,q2,q3,q4,q5,q6⟩:=own.push (⟨_,rfl⟩:Pre [] _) (row:=row) (bytes:=32) hrow (by unfold wy;omega)
 have hbn:∀b,b<h.length+2→blk s≠some b:=fun b hlt hbb=>by have:=hb b hbb;omega
 obtain ⟨a',n',c',rfl⟩:=q2.slice
 have f1:K4[h.length+1]?=some (.cells [s,.bool rc,str [],str [],nilP] 0 false):=q5 _ _ h1 (hbn _ (by omega))
 have hlt:h.length+1<K4.length:=(yoq.1 f1).1
 have blk':∀b,blk (.slice a' n' c')=some b→h.length+2≤b:=fun b hb'=>by
  rcases q6 with q6 | ⟨j,q6,q7⟩
  ·rw [q6] at hb';exact hb b hb'
  ·rw [q6] at hb';cases hb'
   have:=mK.le;have:=(yoq.1 h1).1;omega
 have keep:∀b o,K3[b]?=some o→b≠h.length+1→blk s≠some b→(K4.set (h.length+1) (.cells [.slice a' n' c',.bool rc,str [],str [],nilP] 0 false))[b]?=some o:=fun b o ho n2 n3=>by
  rw [you (yps n2)];exact q5 b o ho n3
 have mE:Mv P h (K4.set (h.length+1) (.cells [.slice a' n' c',.bool rc,str [],str [],nilP] 0 false)):=⟨fun b o ho n1 n2=>by
  have hl:=(yoq.1 ho).1
  exact keep b o (mK.keep b o ho n1 n2) (by omega) (hbn b (by omega)),by rw [yo3];have:=mK.le;omega⟩
 refine ⟨a',n',c',K4,_,q1,f1,rfl,?_,?_,?_,?_,blk',?_,mE,keep,by rw [yo3];omega⟩
 ·exact ⟨keep _ _ eK.hr (by omega) (hbn _ (by omega)),keep _ _ eK.hc (by omega) (hbn _ (by omega)),eK.sc.keep fun b hb' o ho=>by have:=e.sc.lt hb';exact keep b o ho (by omega) (hbn b (by omega)),eK.le⟩
 ·exact keep _ _ h0 (by omega) (hbn _ (by omega))
 ·rw [yox hlt]
 ·exact q2.keep fun b hb' o ho=>by rw [you (by have:=blk' b hb';omega)];exact ho
 ·intro z hz hzs hb'
  rcases q6 with q6 | ⟨j,q6,q7⟩
  ·rw [q6] at hb';exact hzs hb'
  ·rw [q6] at hb';cases hb';omega
def StD (P:RP) (h:Heap) (v:Value) (h':Heap):PR Stm→Prop
 | .ok s r=>∃row k a,v=agg row∧r=P.L.drop k∧Dd P h' k 0 0 a∧StA h' (Iv h.length h'.length) row s∧Mv P h h'
 | .bad c p=>∃row,v=agg row∧row.length=5∧c≠0∧(∃k,Dd P h' k 0 c p)∧Mv P h h'
def DlS (P:RP) (h:Heap) (R:PR Stm) (rc:Bool) (m:Nat) (K:Heap) (k:Nat):Prop:=
 ∃s bs S acc a,m=P.L.length - k+1∧Dd P K k 0 0 a∧K[h.length]?=some (.cells z5 0 false)∧K[h.length+1]?=some (.cells [s,.bool rc,str [],str [],nilP] 0 false)∧Own [] K s 3 (List.zipWith gvA acc bs)∧BsP K S bs acc∧
  (∀z,S z→h.length+2≤z∧z<K.length∧blk s≠some z)∧(∀b,blk s=some b→h.length+2≤b)∧Mv P h K∧acc.length≤k∧
  (match bo P.en (P.L.length+1) (P.L.drop k) with | .bad c a=>R=.bad c a | .ok gs r=>R=.ok (.lets rc (acc++gs)) r)
theorem zxg {bs:List Nat} {gs:List Gv} (h:bs.length=gs.length):(List.zipWith gvA gs bs).length=gs.length:=by simp [h]
theorem yb1 {bs:List Nat} {gs:List Gv} (h:bs.length=gs.length) (g:Gv) (b:Nat):List.zipWith gvA (gs++[g]) (bs++[b])=List.zipWith gvA gs bs++[gvA g b]:=by
 rw [List.zipWith_append h.symm];rfl
theorem zze {h K:Heap} {i k d' x' a1 a0:Nat} {rc:Bool} {R:PR Stm} (e:Dd P h i d' x' a1) {s:Value} {bs:List Nat} {S:Nat→Prop} {acc:List Gv} (eK:Dd P K k 0 0 a0) (hz0:K[h.length]?=some (.cells z5 0 false)) (hz1:K[h.length+1]?=some (.cells [s,.bool rc,str [],str [],nilP] 0 false)) (own:Own [] K s 3 (List.zipWith gvA acc bs)) (gs:BsP K S bs acc)
  (hS:∀z,S z→h.length+2≤z∧z<K.length∧blk s≠some z) (hb:∀b,blk s=some b→h.length+2≤b) (mK:Mv P h K) (hacc:acc.length≤k)
  (hg:(match bo P.en (P.L.length+1) (P.L.drop k) with | .bad c a=>R=.bad c a | .ok gs r=>R=.ok (.lets rc (acc++gs)) r)):
  ∃w p K1 K2 v K3 a' n' c' K4 E k3 x a,DF FF wd [pt P.r] K=some (tup [str w,.int .i64 p],K1)∧
   DF FF yj [pt P.r,str [61]] K1=some (tup [],K2)∧K2[h.length+1]?=some (.cells [s,.bool rc,str [],str [],nilP] 0 false)∧DF FF ya [pt P.r] K2=some (v,K3)∧K3[h.length+1]?=some (.cells [s,.bool rc,str [],str [],nilP] 0 false)∧
   (v=nilP∨∃b,v=pt b)∧
   wu (K3++[.cells [str w,.int .i64 p,v] 0 false]) 3 32 s (za5 (K3++[.cells [str w,.int .i64 p,v] 0 false]) 3 (.slice (some ⟨K3.length,0,some 0⟩) 1 3))=some (.slice a' n' c',K4)∧
   K4[h.length+1]?=some (.cells [s,.bool rc,str [],str [],nilP] 0 false)∧E=K4.set (h.length+1) (.cells [.slice a' n' c',.bool rc,str [],str [],nilP] 0 false)∧
   Dd P E k3 0 x a∧Mv P h E∧E[h.length]?=some (.cells z5 0 false)∧E[h.length+1]?=some (.cells [.slice a' n' c',.bool rc,str [],str [],nilP] 0 false)∧
   ((x≠0∧R=.bad x a)∨(x=0∧k<k3∧∃b S' g,Own [] E (.slice a' n' c') 3 (List.zipWith gvA (acc++[g]) (bs++[b]))∧
    BsP E S' (bs++[b]) (acc++[g])∧(∀z,S' z→h.length+2≤z∧z<E.length∧blk (.slice a' n' c')≠some z)∧(∀b,blk (.slice a' n' c')=some b→h.length+2≤b)∧
    (if keyT (zd P k3)==wAnd then (match bo P.en (P.L.length+1) (P.L.drop (k3+1)) with | .bad c a=>R=.bad c a | .ok gs r=>R=.ok (.lets rc ((acc++[g])++gs)) r) else R=.ok (.lets rc (acc++[g])) (P.L.drop k3)))):=by
 have lr:=e.lr;have lc:=e.lc;have hL:=P.len;have lK:=mK.le
 have lz:=(yoq.1 hz1).1
 obtain ⟨w,p,K1,q1,x1,m1⟩:=yde eK
 have rl:(List.zipWith gvA acc bs).length≤10000:=by rw [zxg gs.len];have:=eK.le;omega
 have o2:∀{G},Mv P K G→G[h.length+1]?=some (.cells [s,.bool rc,str [],str [],nilP] 0 false):=fun m=>m.keep _ _ hz1 (by omega) (by omega)
 have all:∀(K3:Heap) (v:Value) (k3 x a:Nat),Dd P K3 k3 0 x a→Mv P K K3→_:=fun K3 v k3 x a e3 m3=>
  yeo (P:=P) (s:=s) (rc:=rc) (rows:=List.zipWith gvA acc bs) [str w,.int .i64 p,v] rfl e e3 (m3.keep _ _ hz0 (by omega) (by omega)) (o2 m3) (own.keep fun c hc o ho=>m3.keep c o ho (by have:=hb c hc;omega) (by have:=hb c hc;omega)) hb rl (mK.trans m3)
 have hgv:=ycg P k
 have bad:∀c a,znc P.en (P.L.drop k)=.bad c a→R=.bad c a:=fun c a hq=>by rw [zt8 hq] at hg;exact hg
 cases hn:bw (zd P k)
 ·rw [hn,if_neg yo1] at x1 hgv
  obtain ⟨a',n',c',K4,E,r1,r2,rE,r3,r4,r5,r6,r7,r8,r9,r10,r11⟩:=all K1 nilP k _ _ x1 m1
  exact ⟨w,p,K1,K1,nilP,K1,a',n',c',K4,E,k,_,_,q1,zw8 x1 (wq P k) [61],o2 m1,zxy _ _ _ _ _ x1 (wq P k),o2 m1,.inl rfl,r1,r2,rE,r3,r9,r4,r5,.inl ⟨wq P k,bad _ _ hgv⟩⟩
 ·rw [hn,if_pos rfl] at x1 hgv
  obtain ⟨rfl,rfl,x1⟩:=x1
  obtain ⟨K2,q2,x2,m2⟩:=zwb x1 (m:=[61]) (by simp)
  have m12:=m1.trans m2
  cases k61:(keyT (zd P (k+1))==[61])
  ·rw [k61,if_neg yo1] at x2 hgv
   obtain ⟨a',n',c',K4,E,r1,r2,rE,r3,r4,r5,r6,r7,r8,r9,r10,r11⟩:=all K2 nilP _ _ _ x2 m12
   exact ⟨_,_,K1,K2,nilP,K2,a',n',c',K4,E,_,_,_,q1,q2,o2 m12,zxy _ _ _ _ _ x2 (wq P (k+1)),o2 m12,.inl rfl,r1,r2,rE,r3,r9,r4,r5,.inl ⟨wq P (k+1),bad _ _ hgv⟩⟩
  ·rw [k61,if_pos rfl] at x2 hgv
   obtain ⟨v,K3,q3,x3⟩:=zrx 32 0 rfl K2 (k+1+1) _ x2
   cases hx:zhj P.en 32 (P.L.drop (k+1+1)) with
   | bad c a=>
    rw [hx] at x3 hgv
    obtain ⟨hc,nv,⟨k3,e3⟩,m3⟩:=x3
    obtain ⟨a',n',c',K4,E,r1,r2,rE,r3,r4,r5,r6,r7,r8,r9,r10,r11⟩:=all K3 v _ _ _ e3 (m12.trans m3)
    exact ⟨_,_,K1,K2,v,K3,a',n',c',K4,E,_,_,_,q1,q2,o2 m12,q3,o2 (m12.trans m3),nv.imp id fun ⟨b,_,_,_,_,_,_,_,h,_⟩=>⟨b,h⟩,r1,r2,rE,r3,r9,r4,r5,.inl ⟨hc,bad _ _ hgv⟩⟩
   | ok y r=>
    rw [hx] at x3 hgv
    obtain ⟨b,T,k3,a3,rfl,t3,hT,rfl,e3,m3⟩:=x3
    have m13:=m12.trans m3
    obtain ⟨a',n',c',K4,E,r1,r2,rE,r3,r4,r5,r6,r7,r8,r9,r10,r11⟩:=all K3 (pt b) _ _ _ e3 m13
    have hsz:=zhn hgv
    simp only [ypf] at hsz
    have l12:=m12.le
    have l3:=m3.le
    refine ⟨_,_,K1,K2,pt b,K3,a',n',c',K4,E,k3,0,_,q1,q2,o2 m12,q3,o2 m13,.inr ⟨b,rfl⟩,r1,r2,rE,r3,r9,r4,r5,.inr ⟨rfl,by omega,b,fun z=>S z∨T z,⟨(zd P k).text,(zd P k).at_,y⟩,?_,?_,?_,r7,?_⟩⟩
    ·rw [yb1 gs.len];exact r6
    ·refine BsP.snoc (t3.keep fun c o hc ho=>r10 c o ho (by have:=(hT c hc).1;omega) fun hh=>by have:=(own.lt hh).2;have:=(hT c hc).1;omega) (gs.keep fun c o hc ho=>r10 c o (m13.keep c o ho (by have:=(hS c hc).1;omega) (by have:=(hS c hc).1;omega)) (by have:=(hS c hc).1;omega) (hS c hc).2.2) fun z hz hTz=>by have:=(hS z hz).2.1;have:=(hT z hTz).1;omega
    ·intro z hz
     rcases hz with hz | hz
     ·obtain ⟨s1,s2,s3⟩:=hS z hz
      exact ⟨s1,by omega,r8 z (by omega) s3⟩
     ·obtain ⟨t1,t2⟩:=hT z hz
      exact ⟨by omega,by omega,r8 z (by omega) fun hh=>by have:=(own.lt hh).2;omega⟩
    ·rw [zxk hgv] at hg
     cases kw:(keyT (zd P k3)==wAnd)
     ·rw [kw,if_neg yo1] at hg
      rw [if_neg yo1];exact hg
     ·rw [kw,if_pos rfl] at hg
      rw [if_pos rfl]
      cases hq:bo P.en (P.L.length+1) (P.L.drop (k3+1)) with
      | bad c a=>rw [hq] at hg;exact hg
      | ok gs2 r=>rw [hq] at hg;simp only at hg ⊢;rw [hg];simp
end
section
variable {P:RP}
theorem ykk (k:Nat):letP P.en (P.L.drop k)=if keyT (zd P k)==wRec then zi8 P.en true (P.L.drop (k+1)) else zi8 P.en false (P.L.drop k):=by
 by_cases hk:k<P.L.length
 ·rw [jx hk,letP]
 ·rw [yo5 (by omega),xx hk,zbb];rfl
theorem zp0 {h:Heap} {R:PR Stm} (rc:Bool) (K:Heap) (k:Nat) {a:Nat} (eK:Dd P K k 0 0 a) (mK:Mv P h K) (h0:K[h.length]?=some (.cells z5 0 false)) (h1:K[h.length+1]?=some (.cells [.slice none 0 0,.bool rc,str [],str [],nilP] 0 false)) (hRk:R=zi8 P.en rc (P.L.drop k)):DlS P h R rc (P.L.length - k+1) K k:=by
 refine ⟨.slice none 0 0,[],fun _=>False,[],a,rfl,eK,h0,h1,Own.nil _ _ _,trivial,fun z hz=>hz.elim,by intro b hb;simp [blk] at hb,mK,Nat.zero_le _,?_⟩
 unfold zi8 at hRk
 rw [zgg P.en _ (P.L.length+1) (P.L.drop k) (Nat.lt_succ_self _) (by simp;omega)] at hRk
 rw [hRk]
 cases bo P.en (P.L.length+1) (P.L.drop k)<;> rfl
theorem zi1 {h E:Heap} {i k x a a0:Nat} {row:List Value} (e:Dd P h i 0 0 a0) (eE:Dd P E k 0 x a) (mE:Mv P h E) (y0:E[h.length]?=some (.cells z5 0 false)) (y1:E[h.length+1]?=some (.cells row 0 false)) (hrow:row.length=5) (hne:i≠k∨x≠0):
  Heap.read E ⟨h.length+1,0,some 0⟩ 5=some row∧Heap.write E ⟨h.length,0,some 0⟩ row=some (E.set h.length (.cells row 0 false))∧Heap.read (E.set h.length (.cells row 0 false)) ⟨h.length,0,some 0⟩ 5=some row∧
   (∀v,AM.finish h v (E.set h.length (.cells row 0 false))=E.set h.length (.cells row 0 false))∧Dd P (E.set h.length (.cells row 0 false)) k 0 x a∧Mv P h (E.set h.length (.cells row 0 false)):=by
 have e2:=e.upd eE (yoz _) (.cells row 0 false)
 have m2:=mE.upd (b:=h.length) (yoz _) (.cells row 0 false)
 exact ⟨zkc y1 hrow,zd6 y0 (by rw [hrow];rfl),bq (yoq.1 y0).1 hrow,fun v=>e.fin e2 m2 v (by rcases hne with h | h <;> simp [h];omega),e2,m2⟩
def DlI (P:RP) (h:Heap) (R:PR Stm) (rc:Bool) (i:Nat) (m:Nat) (st:St):Prop:=∃K k,i<k∧(∃j:Nat→Value,st=⟨[pt P.r,j 1,pt h.length,pt (h.length+1),j 4,j 5,j 6,j 7,j 8,j 9,j 10,j 11,j 12,j 13,j 14,j 15,j 16,j 17,j 18,j 19,j 20,j 21,j 22,j 23,j 24,j 25,j 26,j 27,j 28,j 29,j 30,j 31,j 32,j 33,j 34,j 35,j 36,j 37,j 38,j 39,j 40,j 41,j 42,j 43,j 44,j 45,j 46,j 47,j 48,j 49,j 50,j 51,j 52,j 53,j 54,j 55,j 56,j 57,j 58,j 59,j 60,j 61,j 62,j 63,j 64,j 65,j 66,j 67,j 68],K⟩)∧DlS P h R rc m K k
theorem ymf:z5.length=5:=by simp [z5]
set_option maxHeartbeats 16000000 in
theorem yjy {h:Heap} {i a0:Nat} (e:Dd P h i 0 0 a0) (hi:i<P.L.length):∃v h',DF FF jl [pt P.r] h=some (v,h')∧StD P h v h' (ze1 P.en (P.L.drop i)):=by
 refine yb zef ?_
 have lr:=e.lr;have lc:=e.lc;have hL:=P.len
 obtain ⟨R,hR⟩:∃R,R=ze1 P.en (P.L.drop i):=⟨_,rfl⟩
 rw [←hR]
 rw [jx hi,ze1] at hR
 obtain ⟨H0,hH0⟩:∃H0,H0=h++[AObj.cells z5 0 false,.cells z5 0 false]:=⟨_,rfl⟩
 have e0:Dd P H0 i 0 0 a0:=by rw [hH0];exact e.more _
 have m0:Mv P h H0:=by rw [hH0];exact Mv.add P h _
 have o1:H0[h.length]?=some (.cells z5 0 false):=by rw [hH0];simp
 have o2:H0[h.length+1]?=some (.cells z5 0 false):=by rw [hH0];simp
 have hz:H0=h++[AObj.cells [.slice none 0 0,.bool false,str [],str [],.pointer none] 0 false,.cells [.slice none 0 0,.bool false,str [],str [],.pointer none] 0 false]:=hH0
 have p1:∀K,Mv P H0 K→K[h.length]?=some (.cells z5 0 false):=fun K m=>m.keep _ _ o1 (by omega) (by omega)
 have p2:∀K,Mv P H0 K→K[h.length+1]?=some (.cells z5 0 false):=fun K m=>m.keep _ _ o2 (by omega) (by omega)
 obtain ⟨K1,q1,e1,m1⟩:=zeb e0 (m:=wLet) (by simp [wLet])
 simp only [wLet] at q1
 cases kl:(keyT (zd P i)==wLet)
 ·rw [kl,if_neg yo1] at e1 hR
  rw [show (keyT (zd P i)==[108,101,116])=false from kl] at q1
  have pk:=zu2 e1
  have z0:=p1 K1 m1
  have z1:=p2 K1 m1
  have chk:∀c:Ck,keyT (zd P i)=ckS c→R=zc7 P.en c (P.L.drop (i+1))→WPD (D FF c_belatedref12_parser_stmt.body ⟨[pt P.r]++zsw (c_belatedref12_parser_stmt.ntmps - [pt P.r].length),h⟩) (retE h c_belatedref12_parser_stmt.res fun v h'=>StD P h v h' R):=by
   intro c hc hR
   rw [hc] at pk
   obtain ⟨E1,hE1⟩:∃E1,E1=K1.set (h.length+1) (.cells [.slice none 0 0,.bool false,str (ckS c),str [],nilP] 0 false):=⟨_,rfl⟩
   have w1:Heap.write1 K1 ⟨h.length+1,2,some 0⟩ (str (ckS c))=some E1:=by rw [hE1];exact jo z1 (by simp [z5])
   have eE1:Dd P E1 i 0 0 a0:=by rw [hE1];exact e.upd e1 (by omega) _
   have mE1:Mv P h E1:=by rw [hE1];exact (m0.trans m1).upd (by omega) _
   have y0:E1[h.length]?=some (.cells z5 0 false):=by rw [hE1,you (by omega)];exact z0
   have y1:E1[h.length+1]?=some (.cells [.slice none 0 0,.bool false,str (ckS c),str [],nilP] 0 false):=by rw [hE1,yox (yoq.1 z1).1]
   obtain ⟨K2,q2,e2,m2⟩:=ze9 eE1
   simp only [hi,if_true,decide_true] at e2 q2
   have lE1:=mE1.le
   obtain ⟨v,K3,q3,D3⟩:=zrx 32 0 rfl K2 (i+1) _ e2
   have m3:Mv P K2 K3:=by
    cases hx:zhj P.en 32 (P.L.drop (i+1)) with
    | ok y r=>rw [hx] at D3;obtain ⟨_,_,_,_,_,_,_,_,_,m⟩:=D3;exact m
    | bad c a=>rw [hx] at D3;exact D3.2.2.2
   have m23:=m2.trans m3
   have t0:=m23.keep _ _ y0 (by omega) (by omega)
   have t1:=m23.keep _ _ y1 (by omega) (by omega)
   obtain ⟨E3,hE3⟩:∃E3,E3=K3.set (h.length+1) (.cells [.slice none 0 0,.bool false,str (ckS c),str [],v] 0 false):=⟨_,rfl⟩
   have w3:Heap.write1 K3 ⟨h.length+1,4,some 0⟩ v=some E3:=by rw [hE3];exact jo t1 (by simp)
   have mE3:Mv P h E3:=by rw [hE3];exact (mE1.trans m23).upd (by omega) _
   have u0:E3[h.length]?=some (.cells z5 0 false):=by rw [hE3,you (by omega)];exact t0
   have u1:E3[h.length+1]?=some (.cells [.slice none 0 0,.bool false,str (ckS c),str [],v] 0 false):=by rw [hE3,yox (yoq.1 t1).1]
   have hvp:∃q,v=.pointer q:=by
    cases hx:zhj P.en 32 (P.L.drop (i+1)) with
    | ok y r=>rw [hx] at D3;obtain ⟨b,_,_,_,rfl,_⟩:=D3;exact ⟨_,rfl⟩
    | bad c a=>rw [hx] at D3;rcases D3.2.1 with rfl | ⟨b,_,_,_,_,_,_,_,rfl,_⟩<;> exact ⟨_,rfl⟩
   obtain ⟨vq,rfl⟩:=hvp
   have g1:(ckS c==[97,99,121,99,108,105,99] || (ckS c==[105,114,114,101,102,108,101,120,105,118,101] || ckS c==[101,109,112,116,121]))=true:=by cases c <;> rfl
   have gA:ckS c==[97,99,121,99,108,105,99]∨((ckS c==[97,99,121,99,108,105,99])=false∧ckS c==[105,114,114,101,102,108,101,120,105,118,101])∨((ckS c==[97,99,121,99,108,105,99])=false∧(ckS c==[105,114,114,101,102,108,101,120,105,118,101])=false∧ckS c==[101,109,112,116,121]):=by cases c <;> decide
   cases hx:zhj P.en 32 (P.L.drop (i+1)) with
   | bad ec ea=>
    rw [hx] at D3
    obtain ⟨hc0,nv,⟨k3,e3⟩,_⟩:=D3
    have eE3:Dd P E3 k3 0 ec ea:=by rw [hE3];exact e.upd e3 (by omega) _
    obtain ⟨rd,wr,rd2,fin,ef,mf⟩:=zi1 e eE3 mE3 u0 u1 rfl (.inr hc0)
    have hRR:R=.bad ec ea:=by rw [hR];unfold zc7;rw [hx]
    rw [hRR]
    have dn:StD P h (agg [.slice none 0 0,.bool false,str (ckS c),str [],.pointer vq]) (E3.set h.length (.cells [.slice none 0 0,.bool false,str (ckS c),str [],.pointer vq] 0 false)) (.bad ec ea):=⟨_,rfl,rfl,hc0,⟨k3,ef⟩,mf⟩
    have qw:=zib eE3 hc0 wAs
    simp only [wAs] at qw
    rcases gA with gA | ⟨gA,gB⟩ | ⟨gA,gB,gC⟩
    ·simp only [c_belatedref12_parser_stmt,zi,zb,yor,yos,zf,z6,yf,qu,yy,xb,←hz,q1,pk,gA,w1,eE1.r0,q2,q3,w3,qw,rd,wr,rd2,fin,pkA,pkB]
     exact dn
    ·simp only [c_belatedref12_parser_stmt,zi,zb,yor,yos,zf,z6,yf,qu,yy,xb,←hz,q1,pk,gA,gB,w1,eE1.r0,q2,q3,w3,qw,rd,wr,rd2,fin,pkA,pkB]
     exact dn
    ·simp only [c_belatedref12_parser_stmt,zi,zb,yor,yos,zf,z6,yf,qu,yy,xb,←hz,q1,pk,gA,gB,gC,w1,eE1.r0,q2,q3,w3,qw,rd,wr,rd2,fin,pkA,pkB]
     exact dn
   | ok y r=>
    rw [hx] at D3
    obtain ⟨b,S,k3,a3,hb3,tr,hS,rfl,e3,_⟩:=D3
    cases hb3
    have hsz:=zdz _ _ _ _ _ hx
    simp only [ypf] at hsz
    have eE3:Dd P E3 k3 0 0 a3:=by rw [hE3];exact e.upd e3 (by omega) _
    obtain ⟨K5,q5,e5,m5⟩:=zeb eE3 (m:=wAs) (by simp [wAs])
    have s0:=m5.keep _ _ u0 (by omega) (by omega)
    have s1:=m5.keep _ _ u1 (by omega) (by omega)
    have hRk:=zxq (c:=c) hx
    rw [←hR] at hRk
    have l2:=m2.le
    have l5:=m5.le
    have lE3:E3.length=K3.length:=by rw [hE3];simp
    have tr5:∀(G:Heap),(∀z o,K3[z]?=some o→h.length+2≤z→G[z]?=some o)→K3.length≤G.length→TreeA G (Iv h.length G.length) b y.pl y:=fun G hG hl=>
     (tr.keep fun z o hz ho=>hG z o ho (by have:=(hS z hz).1;have:=(yoq.1 y1).1;omega)).weak fun z hz=>⟨by have:=(hS z hz).1;omega,by have:=(hS z hz).2;omega⟩
    have k5:∀z o,K3[z]?=some o→h.length+2≤z→K5[z]?=some o:=fun z o ho hz=>m5.keep z o (by rw [hE3,you (by omega)];exact ho) (by omega) (by omega)
    simp only [wAs] at q5
    cases ka:(keyT (zd P k3)==wAs)
    ·rw [ka,if_neg yo1] at e5 hRk
     rw [show (keyT (zd P k3)==[97,115])=false from ka] at q5
     obtain ⟨rd,wr,rd2,fin,ef,mf⟩:=zi1 e e5 (mE3.trans m5) s0 s1 rfl (.inl (by omega))
     rw [hRk]
     have dn:StD P h (agg [.slice none 0 0,.bool false,str (ckS c),str [],pt b]) (K5.set h.length (.cells [.slice none 0 0,.bool false,str (ckS c),str [],pt b] 0 false)) (.ok (.chk c y []) (P.L.drop k3)):=
      ⟨_,k3,a3,rfl,rfl,ef,⟨b,rfl,tr5 _ (fun z o ho hz=>by rw [you (by omega)];exact k5 z o ho hz) (by rw [yo3];omega)⟩,mf⟩
     rcases gA with gA | ⟨gA,gB⟩ | ⟨gA,gB,gC⟩
     ·simp only [c_belatedref12_parser_stmt,zi,zb,yor,yos,zf,z6,yf,qu,yy,xb,←hz,q1,pk,gA,w1,eE1.r0,q2,q3,w3,q5,rd,wr,rd2,fin,pkA,pkB]
      exact dn
     ·simp only [c_belatedref12_parser_stmt,zi,zb,yor,yos,zf,z6,yf,qu,yy,xb,←hz,q1,pk,gA,gB,w1,eE1.r0,q2,q3,w3,q5,rd,wr,rd2,fin,pkA,pkB]
      exact dn
     ·simp only [c_belatedref12_parser_stmt,zi,zb,yor,yos,zf,z6,yf,qu,yy,xb,←hz,q1,pk,gA,gB,gC,w1,eE1.r0,q2,q3,w3,q5,rd,wr,rd2,fin,pkA,pkB]
      exact dn
    ·rw [ka,if_pos rfl] at e5 hRk
     rw [show (keyT (zd P k3)==[97,115])=true from ka] at q5
     obtain ⟨w,p,K6,q6,x6,m6⟩:=yde e5
     have s0':=m6.keep _ _ s0 (by omega) (by omega)
     have s1':=m6.keep _ _ s1 (by omega) (by omega)
     obtain ⟨E6,hE6⟩:∃E6,E6=K6.set (h.length+1) (.cells [.slice none 0 0,.bool false,str (ckS c),str w,pt b] 0 false):=⟨_,rfl⟩
     have w6:Heap.write1 K6 ⟨h.length+1,3,some 0⟩ (str w)=some E6:=by rw [hE6];exact jo s1' (by simp)
     have mE6:Mv P h E6:=by rw [hE6];exact ((mE3.trans m5).trans m6).upd (by omega) _
     have v0:E6[h.length]?=some (.cells z5 0 false):=by rw [hE6,you (by omega)];exact s0'
     have v1:E6[h.length+1]?=some (.cells [.slice none 0 0,.bool false,str (ckS c),str w,pt b] 0 false):=by rw [hE6,yox (yoq.1 s1').1]
     have l6:=m6.le
     cases hn:bw (zd P (k3+1))
     ·rw [hn,if_neg yo1] at x6 hRk
      have eE6:Dd P E6 (k3+1) 0 (k9 P (k3+1)) (gt P (k3+1)):=by rw [hE6];exact e.upd x6 (by omega) _
      obtain ⟨rd,wr,rd2,fin,ef,mf⟩:=zi1 e eE6 mE6 v0 v1 rfl (.inr (wq P _))
      rw [hRk]
      have dn:StD P h (agg [.slice none 0 0,.bool false,str (ckS c),str w,pt b]) (E6.set h.length (.cells [.slice none 0 0,.bool false,str (ckS c),str w,pt b] 0 false)) (.bad (k9 P (k3+1)) (gt P (k3+1))):=⟨_,rfl,rfl,wq P _,⟨_,ef⟩,mf⟩
      rcases gA with gA | ⟨gA,gB⟩ | ⟨gA,gB,gC⟩
      ·simp only [c_belatedref12_parser_stmt,zi,zb,yor,yos,zf,z6,yf,qu,yy,xb,←hz,q1,pk,gA,w1,eE1.r0,q2,q3,w3,q5,q6,w6,rd,wr,rd2,fin,pkA,pkB]
       exact dn
      ·simp only [c_belatedref12_parser_stmt,zi,zb,yor,yos,zf,z6,yf,qu,yy,xb,←hz,q1,pk,gA,gB,w1,eE1.r0,q2,q3,w3,q5,q6,w6,rd,wr,rd2,fin,pkA,pkB]
       exact dn
      ·simp only [c_belatedref12_parser_stmt,zi,zb,yor,yos,zf,z6,yf,qu,yy,xb,←hz,q1,pk,gA,gB,gC,w1,eE1.r0,q2,q3,w3,q5,q6,w6,rd,wr,rd2,fin,pkA,pkB]
       exact dn
     ·rw [hn,if_pos rfl] at x6 hRk
      obtain ⟨rfl,rfl,x6⟩:=x6
      have eE6:Dd P E6 (k3+1+1) 0 0 a3:=by rw [hE6];exact e.upd x6 (by omega) _
      obtain ⟨rd,wr,rd2,fin,ef,mf⟩:=zi1 e eE6 mE6 v0 v1 rfl (.inl (by omega))
      rw [hRk]
      have dn:StD P h (agg [.slice none 0 0,.bool false,str (ckS c),str (zd P (k3+1)).text,pt b]) (E6.set h.length (.cells [.slice none 0 0,.bool false,str (ckS c),str (zd P (k3+1)).text,pt b] 0 false)) (.ok (.chk c y (zd P (k3+1)).text) (P.L.drop (k3+1+1))):=
       ⟨_,_,_,rfl,rfl,ef,⟨b,rfl,tr5 _ (fun z o ho hz=>by rw [you (by omega),hE6,you (by omega)];exact m6.keep z o (k5 z o ho hz) (by omega) (by omega)) (by rw [yo3,hE6,yo3];omega)⟩,mf⟩
      rcases gA with gA | ⟨gA,gB⟩ | ⟨gA,gB,gC⟩
      ·simp only [c_belatedref12_parser_stmt,zi,zb,yor,yos,zf,z6,yf,qu,yy,xb,←hz,q1,pk,gA,w1,eE1.r0,q2,q3,w3,q5,q6,w6,rd,wr,rd2,fin,pkA,pkB]
       exact dn
      ·simp only [c_belatedref12_parser_stmt,zi,zb,yor,yos,zf,z6,yf,qu,yy,xb,←hz,q1,pk,gA,gB,w1,eE1.r0,q2,q3,w3,q5,q6,w6,rd,wr,rd2,fin,pkA,pkB]
       exact dn
      ·simp only [c_belatedref12_parser_stmt,zi,zb,yor,yos,zf,z6,yf,qu,yy,xb,←hz,q1,pk,gA,gB,gC,w1,eE1.r0,q2,q3,w3,q5,q6,w6,rd,wr,rd2,fin,pkA,pkB]
       exact dn
  cases k2:(keyT (zd P i)==bd)
  ·rw [k2,if_neg yo1] at hR
   cases k3:(keyT (zd P i)==wIrr)
   ·rw [k3,if_neg yo1] at hR
    cases k4:(keyT (zd P i)==zcx)
    ·rw [k4,if_neg yo1] at hR
     obtain ⟨K5,q5,e5,m5⟩:=ztd e1
     have hmiss:R=.bad (k9 P i) (gt P i):=by rw [hR];unfold k9 gt;rw [if_pos hi,if_pos hi]
     have m15:=m1.trans m5
     obtain ⟨rd,wr,rd2,fin,ef,mf⟩:=zi1 e e5 (m0.trans m15) (p1 K5 m15) (p2 K5 m15) rfl (.inr (wq P i))
     have k2':(keyT (zd P i)==[97,99,121,99,108,105,99])=false:=k2
     have k3':(keyT (zd P i)==[105,114,114,101,102,108,101,120,105,118,101])=false:=k3
     have k4':(keyT (zd P i)==[101,109,112,116,121])=false:=k4
     rw [hmiss]
     simp only [c_belatedref12_parser_stmt,zi,zb,yos,zf,yf,qu,yy,xb,←hz,q1,pk,k2',k3',k4',q5,rd,wr,rd2,fin,ymf,pkA,pkB]
     exact ⟨z5,rfl,rfl,wq P i,⟨i,ef⟩,mf⟩
    ·rw [k4,if_pos rfl] at hR
     exact chk .empty (eq_of_beq k4) hR
   ·rw [k3,if_pos rfl] at hR
    exact chk .irr (eq_of_beq k3) hR
  ·rw [k2,if_pos rfl] at hR
   exact chk .acyclic (eq_of_beq k2) hR
 ·rw [kl,if_pos rfl] at e1 hR
  rw [show (keyT (zd P i)==[108,101,116])=true from kl] at q1
  obtain ⟨K2,q2,e2,m2⟩:=zeb e1 (m:=wRec) (by simp [wRec])
  have m12:=m1.trans m2
  have z0:=p1 K2 m12
  have z1:=p2 K2 m12
  rw [ykk] at hR
  simp only [wRec] at q2
  obtain ⟨rb,hrb⟩:∃rb,rb=(keyT (zd P (i+1))==wRec):=⟨_,rfl⟩
  rw [←hrb] at hR e2
  rw [show (keyT (zd P (i+1))==[114,101,99])=rb from hrb.symm] at q2
  obtain ⟨E,hE⟩:∃E,E=K2.set (h.length+1) (.cells [.slice none 0 0,.bool rb,str [],str [],nilP] 0 false):=⟨_,rfl⟩
  have w2:Heap.write1 K2 ⟨h.length+1,1,some 0⟩ (.bool rb)=some E:=by rw [hE];exact jo z1 (by simp [z5])
  have mE:Mv P h E:=by rw [hE];exact (m0.trans m12).upd (by omega) _
  have y0:E[h.length]?=some (.cells z5 0 false):=by rw [hE,you (by omega)];exact z0
  have y1:E[h.length+1]?=some (.cells [.slice none 0 0,.bool rb,str [],str [],nilP] 0 false):=by rw [hE,yox (yoq.1 z1).1]
  have start:∃k n,i<k∧DlS P h R rb n E k:=by
   cases rb
   ·rw [if_neg yo1] at hR e2
    have eE:Dd P E (i+1) 0 0 a0:=by rw [hE];exact e.upd e2 (by omega) _
    exact ⟨i+1,_,by omega,zp0 false E (i+1) eE mE y0 y1 hR⟩
   ·rw [if_pos rfl] at hR e2
    have eE:Dd P E (i+1+1) 0 0 a0:=by rw [hE];exact e.upd e2 (by omega) _
    exact ⟨i+1+1,_,by omega,zp0 true E (i+1+1) eE mE y0 y1 hR⟩
  obtain ⟨k0,n0,hk0,st0⟩:=start
  simp only [c_belatedref12_parser_stmt,yos,zf,←hz,q1,q2,w2,pkA,pkB]
  refine zgx (DlI P h R rb i) ?_ n0 _ ⟨E,k0,hk0,junk rfl,st0⟩
  rintro m st ⟨K,k,hik,⟨j0,rfl⟩,s,bs,S,acc,a,rfl,eK,u0,u1,own,gs,hS,hb,mK,hacc,hg⟩
  obtain ⟨w,p,K3,K4,v,K5,a',n',c',K6,E6,k3,x,a2,r1,r2,o4,r3,o5,hv,ra,o6,rE,eE6,mE6,v0,v1,fin⟩:=zze e eK u0 u1 own gs hS hb mK hacc hg
  obtain ⟨sa,sn,sc,rfl⟩:=own.slice
  have rd4:∀j,Heap.read1 K4 ⟨h.length+1,j,some 0⟩=([.slice sa sn sc,.bool rb,str [],str [],nilP]:List Value)[j]?:=fun j=>zr o4
  have rd5:∀j,Heap.read1 K5 ⟨h.length+1,j,some 0⟩=([.slice sa sn sc,.bool rb,str [],str [],nilP]:List Value)[j]?:=fun j=>zr o5
  have wE:Heap.write1 K6 ⟨h.length+1,0,some 0⟩ (.slice a' n' c')=some E6:=by rw [rE];exact jo o6 (by simp)
  have hvp:∃q,v=.pointer q:=by rcases hv with rfl | ⟨b,rfl⟩<;> exact ⟨_,rfl⟩
  obtain ⟨vq,rfl⟩:=hvp
  rcases fin with ⟨hx,hRR⟩ | ⟨rfl,hk3,b,S',g,f1,f2,f3,f4,f5⟩
  ·obtain ⟨rd,wr,rdd,fin,ef,mf⟩:=zi1 e eE6 mE6 v0 v1 rfl (.inr hx)
   have qw:=zib eE6 hx wAnd
   simp only [wAnd] at qw
   simp only [zb,ypc,yor,slc,zeq,zak,ym,jk,qu,yy,xb,r1,r2,rd4,rd5,r3,zgk,slc,ra,wE,qw,rd,wr,rdd,fin,pkA,pkB]
   rw [hRR]
   exact ⟨_,rfl,rfl,hx,⟨k3,ef⟩,mf⟩
  ·obtain ⟨K7,q7,e7,m7⟩:=zeb eE6 (m:=wAnd) (by simp [wAnd])
   simp only [wAnd] at q7
   have x0:=m7.keep _ _ v0 (by omega) (by omega)
   have x1:=m7.keep _ _ v1 (by omega) (by omega)
   have l7:=m7.le
   have keepS:∀z,S' z→∀o,E6[z]?=some o→K7[z]?=some o:=fun z hz o ho=>m7.keep z o ho (by have:=(f3 z hz).1;omega) (by have:=(f3 z hz).1;omega)
   have keepB:∀z,blk (.slice a' n' c')=some z→∀o,E6[z]?=some o→K7[z]?=some o:=fun z hz o ho=>m7.keep z o ho (by have:=f4 z hz;omega) (by have:=f4 z hz;omega)
   cases ka:(keyT (zd P k3)==wAnd)
   ·rw [ka,if_neg yo1] at e7 f5
    rw [show (keyT (zd P k3)==[97,110,100])=false from ka] at q7
    obtain ⟨rd,wr,rdd,fin,ef,mf⟩:=zi1 e e7 (mE6.trans m7) x0 x1 rfl (.inl (by omega))
    simp only [zb,ypc,yor,slc,zeq,zak,ym,jk,qu,yy,xb,r1,r2,rd4,rd5,r3,zgk,slc,ra,wE,q7,rd,wr,rdd,fin,pkA,pkB]
    rw [f5]
    refine ⟨_,k3,a2,rfl,rfl,ef,⟨_,bs++[b],S',rfl,?_,?_,fun z hz=>⟨⟨?_,?_⟩,(f3 z hz).2.2⟩,fun z hz=>⟨?_,?_⟩⟩,mf⟩
    ·exact f1.sl.keep fun z hz o ho=>by rw [you (by have:=f4 z hz;omega)];exact keepB z hz o ho
    ·exact f2.keep fun z o hz ho=>by rw [you (by have:=(f3 z hz).1;omega)];exact keepS z hz o ho
    ·have:=(f3 z hz).1;omega
    ·have:=(f3 z hz).2.1;rw [yo3];omega
    ·have:=f4 z hz;omega
    ·have:=(f1.lt hz).2;rw [yo3];omega
   ·rw [ka,if_pos rfl] at e7 f5
    rw [show (keyT (zd P k3)==[97,110,100])=true from ka] at q7
    have hlt:k3<P.L.length:=zby (m:=wAnd) (by simp [wAnd]) ka
    simp only [zb,ypc,yor,slc,zeq,zak,ym,jk,r1,r2,rd4,rd5,r3,zgk,slc,ra,wE,q7,pkA,pkB]
    refine ⟨P.L.length - (k3+1)+1,by omega,K7,k3+1,by omega,junk rfl,.slice a' n' c',bs++[b],S',acc++[g],a2,rfl,e7,x0,x1,f1.keep keepB,f2.keep fun z o hz ho=>keepS z hz o ho,fun z hz=> ?_,f4,mE6.trans m7,by simp;omega,f5⟩
    obtain ⟨g1,g2,g3⟩:=f3 z hz
    exact ⟨g1,by omega,g3⟩
end
/-- Statements side by side, each among its own objects. -/
def StsA (h:Heap):(Nat→Prop)→List (List Value)→List Stm→Prop
 | _,[],[]=>True
 | T,r::rs,s::l=>∃T1 T2,StA h T1 r s∧StsA h T2 rs l∧(∀z,T1 z→T z∧¬T2 z)∧∀z,T2 z→T z
 | _,_,_=>False
theorem StsA.keep {h h':Heap}:∀{T:Nat→Prop} {rs:List (List Value)} {l:List Stm},StsA h T rs l→(∀b o,T b→h[b]?=some o→h'[b]?=some o)→StsA h' T rs l
 | T,[],[],e,k=>trivial
 | T,r::rs,s::l,e,k=>by
  obtain ⟨T1,T2,t,q,h1,h2⟩:=e
  exact ⟨T1,T2,t.keep fun b o hb=>k b o (h1 b hb).1,q.keep fun b o hb=>k b o (h2 b hb),h1,h2⟩
 | T,[],_::_,e,k=>e.elim
 | T,_::_,[],e,k=>e.elim
theorem StsA.len {h:Heap}:∀{T:Nat→Prop} {rs:List (List Value)} {l:List Stm},StsA h T rs l→rs.length=l.length
 | T,[],[],e=>rfl
 | T,r::rs,s::l,e=>by obtain ⟨T1,T2,t,q,h1,h2⟩:=e;simp [q.len]
 | T,[],_::_,e=>e.elim
 | T,_::_,[],e=>e.elim
theorem StsA.snoc {h:Heap} {T':Nat→Prop} {r:List Value} {s:Stm} (t:StA h T' r s):∀{T:Nat→Prop} {rs:List (List Value)} {l:List Stm},StsA h T rs l→(∀z,T z→¬T' z)→StsA h (fun z=>T z∨T' z) (rs++[r]) (l++[s])
 | T,[],[],e,hd=>⟨T',fun _=>False,t,trivial,fun z hz=>⟨.inr hz,id⟩,fun z hz=>hz.elim⟩
 | T,w::rs,f::l,e,hd=>by
  obtain ⟨T1,T2,t1,q,h1,h2⟩:=e
  exact ⟨T1,fun z=>T2 z∨T' z,t1,q.snoc t fun z hz=>hd z (h2 z hz),fun z hz=>⟨.inl (h1 z hz).1,fun h=>h.elim (h1 z hz).2 (hd z (h1 z hz).1)⟩,fun z hz=>hz.imp (h2 z) id⟩
 | T,[],_::_,e,hd=>e.elim
 | T,_::_,[],e,hd=>e.elim
theorem StsA.focus {h:Heap}:∀{T:Nat→Prop} {rs:List (List Value)} {l:List Stm} {i:Nat} (hi:i<l.length),StsA h T rs l→∃r Ti,rs[i]?=some r∧StA h Ti r l[i]∧(∀z,Ti z→T z)∧
  ∀(h':Heap) (s':Stm),StA h' Ti r s'→(∀z o,T z→¬Ti z→h[z]?=some o→h'[z]?=some o)→StsA h' T rs (l.set i s')
 | T,[],[],i,hi,e=>by simp at hi
 | T,r::rs,s::l,0,hi,e=>by
  obtain ⟨T1,T2,t,q,h1,h2⟩:=e
  exact ⟨r,T1,rfl,t,fun z hz=>(h1 z hz).1,fun h' s' t' keep=>⟨T1,T2,t',q.keep fun z o hz ho=>keep z o (h2 z hz) (fun h3=>(h1 z h3).2 hz) ho,h1,h2⟩⟩
 | T,r::rs,s::l,i+1,hi,e=>by
  obtain ⟨T1,T2,t,q,h1,h2⟩:=e
  obtain ⟨c,Ti,a,t2,s2,f⟩:=q.focus (i:=i) (by simpa using hi)
  exact ⟨c,Ti,by simpa using a,by simpa using t2,fun z hz=>h2 z (s2 z hz),fun h' s' t' keep=>⟨T1,T2,t.keep fun z o hz ho=>keep z o (h1 z hz).1 (fun h3=>(h1 z hz).2 (s2 z h3)) ho,f h' s' t' fun z o hz hn ho=>keep z o (h2 z hz) hn ho,h1,h2⟩⟩
 | T,[],_::_,i,hi,e=>e.elim
 | T,_::_,[],i,hi,e=>e.elim
theorem yfp {kn names:Kn} {i:Nat} (hi:i<names.length):fg kn (names.drop i)=fg (if (wn kn names[i].1).isSome then kn else kn++[names[i]]) (names.drop (i+1)):=by
 rw [ypo hi,fg]
theorem ye7 {kn:Kn} {n i:Nat} {l:List Stm} (hi:i<l.length):chkM kn n (l.drop i)=(match chkS kn n l[i] with
  | .bad c a=>.bad c a
  | .ok s'=>match chkM (kn++s'.given) (n+s'.given.length) (l.drop (i+1)) with
   | .bad c a=>.bad c a
   | .ok l'=>.ok (s'::l')):=by
 rw [ypo hi,chkM]
 rfl
/-- How far the statements are read. -/
def DpS (P:RP) (mb:Nat) (H4:Heap) (R:PR (List Stm)) (m:Nat) (K:Heap):Prop:=
 (∃k a ss T acc rows,m=P.L.length - k+1∧Dd P K k 0 0 a∧K[mb]?=some (.cells [nils,nils,ss] 0 false)∧Own [] K ss 5 rows∧StsA K T rows acc∧(∀z,T z→mb<z∧z<K.length∧blk ss≠some z)∧(∀b,blk ss=some b→mb<b)∧M3 P mb H4 K∧acc.length≤k∧
  (∀rc gs,Stm.lets rc gs∈acc→gs.length≤8192)∧(match jw P.en P.L.length (P.L.drop k) with | .bad c a=>R=.bad c a | .ok l r=>R=.ok (acc++l) r))∨
 (∃k c a x y z rows,m=0∧Dd P K k 0 c a∧c≠0∧R=.bad c a∧K[mb]?=some (.cells [nils,nils,.slice x y z] 0 false)∧M3 P mb H4 K∧Own [] K (.slice x y z) 5 rows∧(∀b,blk (.slice x y z)=some b→mb<b)∧rows.length≤8193)
def DpI (P:RP) (mb:Nat) (H4:Heap) (ns:Value) (R:PR (List Stm)) (m:Nat) (st:St):Prop:=∃K,(∃j:Nat→Value,st=⟨[j 0,ns,j 2,j 3,j 4,j 5,j 6,P.cs,j 8,j 9,pt P.r,pt mb,j 12,j 13,j 14,j 15,j 16,j 17,j 18,j 19,j 20,j 21,j 22,j 23,j 24,j 25,j 26,j 27,j 28,j 29,j 30,j 31,j 32,j 33,j 34,j 35,j 36,j 37,j 38,j 39,j 40,j 41,j 42,j 43,j 44,j 45,j 46,j 47,j 48,j 49,j 50,j 51,j 52,j 53,j 54,j 55,j 56,j 57,j 58,j 59,j 60,j 61,j 62,j 63,j 64,j 65,j 66,j 67,j 68,j 69,j 70,j 71,j 72,j 73,j 74,j 75,j 76,j 77,j 78,j 79,j 80,j 81,j 82,j 83,j 84,j 85,j 86,j 87,j 88,j 89,j 90,j 91,j 92,j 93,j 94,j 95,j 96,j 97,j 98,j 99,j 100,j 101,j 102,j 103,j 104,j 105,j 106,j 107,j 108,j 109,j 110,j 111,j 112,j 113,j 114,j 115,j 116,j 117,j 118,j 119,j 120,j 121,j 122,j 123,j 124,j 125,j 126,j 127,j 128,j 129,j 130,j 131,j 132,j 133,j 134,j 135,j 136,j 137,j 138,j 139,j 140,j 141,j 142,j 143,j 144,j 145,j 146,j 147,j 148,j 149,j 150,j 151,j 152,j 153,j 154,j 155,j 156,j 157,j 158,j 159,j 160,j 161,j 162,j 163,j 164,j 165,j 166,j 167,j 168,j 169,j 170,j 171,j 172,j 173,j 174,j 175,j 176,j 177,j 178,j 179,j 180,j 181,j 182,j 183,j 184,j 185,j 186,j 187,j 188,j 189,j 190,j 191,j 192,j 193,j 194],K⟩)∧DpS P mb H4 R m K
theorem yf5 {P:RP} {mb:Nat} {H4 K:Heap} {R:PR (List Stm)} {k:Nat} {ss:Value} {T:Nat→Prop} {acc:List Stm} {rows:List (List Value)} (e4:Dd P H4 0 0 0 0) (hl4:H4.length=mb+1) (hmr:mb≠P.r) (hmc:mb≠P.c) (hcm:blk P.cs≠some mb) (hk:k<P.L.length) {a0:Nat} (eK:Dd P K k 0 0 a0) (hm:K[mb]?=some (.cells [nils,nils,ss] 0 false)) (own:Own [] K ss 5 rows) (st:StsA K T rows acc) (hT:∀z,T z→mb<z∧z<K.length∧blk ss≠some z) (hb:∀b,blk ss=some b→mb<b) (m4:M3 P mb H4 K) (hacc:acc.length≤k)
  (hgs:∀rc gs,Stm.lets rc gs∈acc→gs.length≤8192) (hR:(match jw P.en P.L.length (P.L.drop k) with | .bad c a=>R=.bad c a | .ok l r=>R=.ok (acc++l) r)):
  ∃row K1 x y z K2,row.length=5∧DF FF jl [pt P.r] K=some (agg row,K1)∧Heap.read1 K1 ⟨mb,2,some 0⟩=some ss∧
   wu (K1++[.cells row 0 false]) 5 72 ss (za5 (K1++[.cells row 0 false]) 5 (.slice (some ⟨K1.length,0,some 0⟩) 1 5))=some (.slice x y z,K2)∧Heap.write1 K2 ⟨mb,2,some 0⟩ (.slice x y z)=some (K2.set mb (.cells [nils,nils,.slice x y z] 0 false))∧
   ∃m',m'<P.L.length - k+1∧DpS P mb H4 R m' (K2.set mb (.cells [nils,nils,.slice x y z] 0 false)):=by
 have hL:=P.len
 have lr:=e4.lr;have lc:=e4.lc
 obtain ⟨v,K1,q1,x1⟩:=yjy eK hk
 have m1:Mv P K K1:=by
  cases hx:ze1 P.en (P.L.drop k) with
  | ok s r=>rw [hx] at x1;obtain ⟨_,_,_,_,_,_,_,m⟩:=x1;exact m
  | bad c a=>rw [hx] at x1;obtain ⟨_,_,_,_,_,m⟩:=x1;exact m
 obtain ⟨row,hrow,hr4⟩:∃row,v=agg row∧row.length=5:=by
  cases hx:ze1 P.en (P.L.drop k) with
  | ok s r=>rw [hx] at x1;obtain ⟨row,_,_,hv,_,_,st,_⟩:=x1;exact ⟨row,hv,st.len⟩
  | bad c a=>rw [hx] at x1;obtain ⟨row,hv,h4,_⟩:=x1;exact ⟨row,hv,h4⟩
 subst hrow
 have hm1:=m1.keep _ _ hm hmr hmc
 have own1:Own [] K1 ss 5 rows:=own.keep fun b hb' o ho=>m1.keep b o ho (by have:=hb b hb';omega) (by have:=hb b hb';omega)
 obtain ⟨ss',K2,p1,p2,p3,p4,p5,p6⟩:=own1.push (⟨_,rfl⟩:Pre [] K1) (row:=row) (bytes:=72) hr4 (by rw [st.len];unfold wy;omega)
 obtain ⟨x,y,z,rfl⟩:=p2.slice
 have hbm:blk ss≠some mb:=fun h=>by have:=hb _ h;omega
 have hm2:K2[mb]?=some (.cells [nils,nils,ss] 0 false):=p5 _ _ hm1 hbm
 have lm2:=(yoq.1 hm2).1
 have blk2:∀b,blk (.slice x y z)=some b→mb<b:=fun b hb'=>by
  rcases p6 with h | ⟨j,h,h'⟩
  ·rw [h] at hb';exact hb b hb'
  ·rw [h] at hb';cases hb';have:=(yoq.1 hm1).1;omega
 have m2:M3 P mb H4 (K2.set mb (.cells [nils,nils,.slice x y z] 0 false)):=⟨fun b o ho n1 n2 n3=>by
  have hlt:=(yoq.1 ho).1
  rw [you (yps n3)]
  exact p5 b o (m1.keep b o (m4.keep b o ho n1 n2 n3) n1 n2) fun h=>by have:=hb b h;omega,by rw [yo3];have:=m4.le;have:=m1.le;omega⟩
 have rd2:∀k' x' a',Dd P K1 k' 0 x' a'→Dd P (K2.set mb (.cells [nils,nils,.slice x y z] 0 false)) k' 0 x' a':=fun k' x' a' e=>by
  have kp:∀b o,b<H4.length→b≠mb→K1[b]?=some o→(K2.set mb (.cells [nils,nils,.slice x y z] 0 false))[b]?=some o:=fun b o hlt n3 ho=>by
   rw [you (yps n3)];exact p5 b o ho fun h=>by have:=hb b h;omega
  have clt:∀b,blk P.cs=some b→b<H4.length∧b≠mb:=fun b hb'=>⟨e4.sc.lt hb',by rintro rfl;exact hcm hb'⟩
  exact ⟨kp _ _ lr (yps hmr) e.hr,kp _ _ lc (yps hmc) e.hc,e.sc.keep fun b hb' o ho=>kp b o (clt b hb').1 (clt b hb').2 ho,e.le⟩
 refine ⟨row,K1,x,y,z,K2,hr4,q1,zr hm1,p1,by rw [jo hm2 (by simp)];rfl,?_⟩
 rw [zyc hk] at hR
 cases hx:ze1 P.en (P.L.drop k) with
 | bad c a=>
  rw [hx] at x1 hR
  obtain ⟨_,_,_,hc,⟨k',e1⟩,_⟩:=x1
  exact ⟨0,by omega,.inr ⟨k',c,a,x,y,z,rows++[row],rfl,rd2 _ _ _ e1,hc,hR,by rw [yox lm2],m2,p2.keep fun b hb' o ho=>by rw [you (by have:=blk2 b hb';omega)];exact ho,blk2,by rw [yo8,st.len];simp;omega⟩⟩
 | ok s r=>
  rw [hx] at x1 hR
  obtain ⟨row',k',a',hrr,rfl,e1,sp,_⟩:=x1
  have hrr:row=row':=by simpa [agg] using hrr
  subst hrr
  have hsh:=hx
  rw [jx hk] at hsh
  obtain ⟨s1,s2⟩:=zf3 hsh
  simp only [ypf] at s1 s2
  have kle:=e1.le
  have hlK:=(yoq.1 hm).1
  refine ⟨P.L.length - k'+1,by omega,.inl ⟨k',a',.slice x y z,fun w=>T w∨Iv K.length K1.length w,acc++[s],rows++[row],rfl,rd2 _ _ _ e1,by rw [yox lm2],p2.keep fun b hb' o ho=>by rw [you (by have:=blk2 b hb';omega)];exact ho,?_,?_,blk2,m2,by simp;omega,?_,?_⟩⟩
  ·refine StsA.snoc (sp.keep fun w o hw ho=> ?_) (st.keep fun w o hw ho=> ?_) fun w hw hI=>by have:=(hT w hw).2.1;have:=hI.1;omega
   ·rw [you (by have:=hw.1;omega)]
    exact p5 w o ho fun h=>by have:=(own.lt h).2;have:=hw.1;omega
   ·obtain ⟨t1,t2,t3⟩:=hT w hw
    rw [you (by omega)]
    exact p5 w o (m1.keep w o ho (by omega) (by omega)) t3
  ·intro w hw
   rw [yo3]
   have hlw:w<K1.length∧mb<w∧blk ss≠some w:=by
    rcases hw with hw | hw
    ·obtain ⟨t1,t2,t3⟩:=hT w hw;have:=m1.le;exact ⟨by omega,t1,t3⟩
    ·have:=hw.1;have:=hw.2;exact ⟨by omega,by omega,fun h=>by have:=(own.lt h).2;omega⟩
   refine ⟨hlw.2.1,by omega,fun h=> ?_⟩
   rcases p6 with h6 | ⟨j,h6,h7⟩
   ·rw [h6] at h;exact hlw.2.2 h
   ·rw [h6] at h;cases h;omega
  ·intro rc gs hmem
   rcases ype.1 hmem with hmem | hmem
   ·exact hgs rc gs hmem
   ·simp at hmem;have:=s2 rc gs hmem.symm;omega
  ·simp only at hR
   cases hq:jw P.en P.L.length (P.L.drop k') with
   | bad c a=>rw [hq] at hR;exact hR
   | ok l2 r2=>rw [hq] at hR;simp only at hR ⊢;rw [hR];simp
structure DpE (P:RP) (mb:Nat) (H4 K:Heap) (R:PR (List Stm)) (k x a:Nat) (ss:Value) (rows:List (List Value)):Prop where
 rd:Dd P K k 0 x a
 mo:K[mb]?=some (.cells [nils,nils,ss] 0 false)
 own:Own [] K ss 5 rows
 lo:∀b,blk ss=some b→mb<b
 m3:M3 P mb H4 K
 rl:rows.length≤8193
 ok:x=0→∃T acc,R=.ok acc []∧StsA K T rows acc∧(∀z,T z→mb<z∧z<K.length∧blk ss≠some z)∧(∀rc gs,Stm.lets rc gs∈acc→gs.length≤8192)∧acc.length≤8192
 bad:x≠0→R=.bad x a
def DpO (P:RP) (mb:Nat) (H4:Heap) (ns:Value) (R:PR (List Stm)) (st:St):Prop:=∃K,(∃j:Nat→Value,st=⟨[j 0,ns,j 2,j 3,j 4,j 5,j 6,j 7,j 8,j 9,pt P.r,pt mb,j 12,j 13,j 14,j 15,j 16,j 17,j 18,j 19,j 20,j 21,j 22,j 23,j 24,j 25,j 26,j 27,j 28,j 29,j 30,j 31,j 32,j 33,j 34,j 35,j 36,j 37,j 38,j 39,j 40,j 41,j 42,j 43,j 44,j 45,j 46,j 47,j 48,j 49,j 50,j 51,j 52,j 53,j 54,j 55,j 56,j 57,j 58,j 59,j 60,j 61,j 62,j 63,j 64,j 65,j 66,j 67,j 68,j 69,j 70,j 71,j 72,j 73,j 74,j 75,j 76,j 77,j 78,j 79,j 80,j 81,j 82,j 83,j 84,j 85,j 86,j 87,j 88,j 89,j 90,j 91,j 92,j 93,j 94,j 95,j 96,j 97,j 98,j 99,j 100,j 101,j 102,j 103,j 104,j 105,j 106,j 107,j 108,j 109,j 110,j 111,j 112,j 113,j 114,j 115,j 116,j 117,j 118,j 119,j 120,j 121,j 122,j 123,j 124,j 125,j 126,j 127,j 128,j 129,j 130,j 131,j 132,j 133,j 134,j 135,j 136,j 137,j 138,j 139,j 140,j 141,j 142,j 143,j 144,j 145,j 146,j 147,j 148,j 149,j 150,j 151,j 152,j 153,j 154,j 155,j 156,j 157,j 158,j 159,j 160,j 161,j 162,j 163,j 164,j 165,j 166,j 167,j 168,j 169,j 170,j 171,j 172,j 173,j 174,j 175,j 176,j 177,j 178,j 179,j 180,j 181,j 182,j 183,j 184,j 185,j 186,j 187,j 188,j 189,j 190,j 191,j 192,j 193,j 194],K⟩)∧∃k x a ss rows,DpE P mb H4 K R k x a ss rows
/-- Where a name stands first. -/
def idxN (w:Bys):Kn→Option Nat
 | []=>none
 | p::r=>if p.1==w then some 0 else (idxN w r).map (· +1)
def idxZ:Option Nat→Int
 | none=> -1
 | some k=>k
theorem zvi {w:Bys}:∀{kn:Kn} {k:Nat},idxN w kn=some k→k<kn.length
 | [],k,h=>by cases h
 | p::r,k,h=>by
  rw [idxN] at h
  split at h
  ·cases h;simp
  ·cases hr:idxN w r with
   | none=>rw [hr] at h;cases h
   | some j=>rw [hr] at h;cases h;have:=zvi hr;simp;omega
theorem zns (w:Bys):∀kn:Kn,wn kn w=(idxN w kn).bind fun k=>(kn[k]?).map (·.2)
 | []=>rfl
 | (v,s)::r=>by
  rw [wn,idxN]
  by_cases h:w=v
  ·subst h;simp
  ·rw [if_neg (by simpa using h),if_neg (by simpa using fun e=>h e.symm),zns w r]
   cases idxN w r <;> simp
theorem idxN_none {w:Bys} {kn:Kn}:idxN w kn=none↔wn kn w=none:=by
 rw [zns]
 cases h:idxN w kn with
 | none=>simp
 | some k=>
  have:=zvi h
  simp [yow this]
theorem yb5 {w:Bys} {kn:Kn} {k:Nat} (hk:k<kn.length):idxN w (kn.drop k)=if kn[k].1==w then some 0 else (idxN w (kn.drop (k+1))).map (· +1):=by
 rw [ypo hk,idxN]
def FnI (kn:Kn) (w:Bys) (ks:Value) (H:Heap) (k:Nat) (st:St):Prop:=(∃j:Nat→Value,st=⟨[ks,str w,j 2,j 3,j 4,.int .i64 (k:Int),j 6,j 7,j 8,j 9,j 10,j 11,j 12,j 13,j 14,j 15,j 16,j 17,j 18,j 19],H⟩)∧idxN w kn=(idxN w (kn.drop k)).map (· +k)
set_option maxHeartbeats 4000000 in
theorem zyj {h:Heap} {ks:Value} {kn:Kn} (w:Bys) (hs:Sl h ks 2 (kn.map zw)) (hl:kn.length<4611686018427387904):DF FF qb [ks,str w] h=some (.int .i64 (idxZ (idxN w kn)),h):=by
 refine ye zjk ?_
 have ln:∀H,lenO H ks=some (.int .i64 (kn.length:Int),H):=fun H=>by rw [hs.len,ypd]
 simp only [zdw,yor,yos,pkA,pkB]
 refine gg kn.length (FnI kn w ks h) ?_ ?_ _ ⟨junk rfl,by simp⟩
 ·rintro k st hk ⟨⟨j,rfl⟩,e⟩
  obtain ⟨b,o,v,a1,a2⟩:=hs.atH (k:=k) (by simpa using hk)
  have a3:Heap.read1 h ⟨b,o,some v⟩=some (str kn[k].1):=bt a2 (by simp [zw])
  have c1:((k:Int)<(kn.length:Int))=True:=by simp;omega
  rw [yb5 hk] at e
  cases hw:kn[k].1==w
  ·rw [hw] at e
   simp only [zb,zc,yf,ln,c1,a1,a3,hw,zs (k:=k) (by omega),pkA,pkB]
   refine ⟨junk rfl,?_⟩
   rw [e]
   simp only [yoy,if_false,Option.map_map]
   congr 1;funext x;simp;omega
  ·rw [hw] at e
   simp only [zb,wt,yf,ln,c1,a1,a3,hw,pkA,pkB]
   rw [e];simp [idxZ]
 ·rintro st ⟨⟨j,rfl⟩,e⟩
  have c1:((kn.length:Int)<(kn.length:Int))=False:=by simp
  rw [yp5] at e
  simp only [zb,zq,ln,c1,pkA]
  rw [e];rfl
theorem yc {h H:Heap} (v:Value) (hl:H.length=h.length):AM.finish h v H=H:=by
 rcases j5 h H v with hf | ⟨hf,hk⟩
 ·exact hf
 ·rw [hf,←hk,←hl,ypq]
structure Ca (h:Heap) (q:Nat) (ks rs:Value) (kn:Kn) (rc:List Bys) (x a:Nat):Prop where
 cq:h[q]?=some (.cells [ks,rs,.int .i64 (x:Int),.int .i64 (a:Int)] 0 false)
 ck:Sl h ks 2 (kn.map zw)
 cr:Sl h rs 1 (rc.map pd)
structure Kq (S:Nat→Prop) (q:Nat) (h h':Heap):Prop where
 keep:∀(b:Nat) (o:AObj),h[b]?=some o→¬S b→b≠q→h'[b]?=some o
 len:h'.length=h.length
theorem Kq.refl (S:Nat→Prop) (q:Nat) (h:Heap):Kq S q h h:=⟨fun _ _ e _ _=>e,rfl⟩
theorem Kq.trans {S S':Nat→Prop} {q:Nat} {h h' h'':Heap} (a:Kq S q h h') (b:Kq S' q h' h''):Kq (fun z=>S z∨S' z) q h h'':=
 ⟨fun x o e n1 n2=>b.keep x o (a.keep x o e (fun hh=>n1 (.inl hh)) n2) (fun hh=>n1 (.inr hh)) n2,b.len.trans a.len⟩
theorem Kq.weak {S S':Nat→Prop} {q:Nat} {h h':Heap} (a:Kq S q h h') (hs:∀z,S z→S' z):Kq S' q h h':=⟨fun b o e n1 n2=>a.keep b o e (fun hh=>n1 (hs b hh)) n2,a.len⟩
theorem Kq.set {S:Nat→Prop} {q:Nat} {h h':Heap} {b:Nat} (k:Kq S q h h') (hb:S b) (o:AObj):Kq S q h (h'.set b o):=
 ⟨fun c o' ho n1 n2=>by rw [you (by rintro rfl;exact n1 hb)];exact k.keep c o' ho n1 n2,by rw [yo3];exact k.len⟩
structure Cc (q:Nat) (ks rs:Value) (S:Nat→Prop):Prop where
 nq:¬S q
 k:∀b,blk ks=some b→¬S b∧b≠q
 r:∀b,blk rs=some b→¬S b∧b≠q
theorem Cc.weak {q:Nat} {ks rs:Value} {S S':Nat→Prop} (c:Cc q ks rs S) (hs:∀z,S' z→S z):Cc q ks rs S':=
 ⟨fun h=>c.nq (hs _ h),fun b hb=>⟨fun h=>(c.k b hb).1 (hs _ h),(c.k b hb).2⟩,fun b hb=>⟨fun h=>(c.r b hb).1 (hs _ h),(c.r b hb).2⟩⟩
theorem Ca.kq {h h':Heap} {q x a x' a':Nat} {ks rs:Value} {kn:Kn} {rc:List Bys} {S:Nat→Prop} (c:Ca h q ks rs kn rc x a) (k:Kq S q h h') (cc:Cc q ks rs S) (hq:h'[q]?=some (.cells [ks,rs,.int .i64 (x':Int),.int .i64 (a':Int)] 0 false)):Ca h' q ks rs kn rc x' a':=
 ⟨hq,c.ck.keep fun b hb o ho=>k.keep b o ho (cc.k b hb).1 (cc.k b hb).2,c.cr.keep fun b hb o ho=>k.keep b o ho (cc.r b hb).1 (cc.r b hb).2⟩
theorem zaq {h:Heap} {q:Nat} {ks rs:Value} {a:Nat} (hq:h[q]?=some (.cells [ks,rs,.int .i64 0,.int .i64 (a:Int)] 0 false)) (c p:Nat):DF FF zt [pt q,.int .i64 (c:Int),.int .i64 (p:Int)] h=some (tup [],h.set q (.cells [ks,rs,.int .i64 (c:Int),.int .i64 (p:Int)] 0 false)):=by
 have:∃v h',DF FF zt [pt q,.int .i64 (c:Int),.int .i64 (p:Int)] h=some (v,h')∧(v=tup []∧h'=h.set q (.cells [ks,rs,.int .i64 (c:Int),.int .i64 (p:Int)] 0 false)):=by
  refine yb zab ?_
  have hlt:=(yoq.1 hq).1
  have r1:∀j,Heap.read1 h ⟨q,j,some 0⟩=([ks,rs,.int .i64 0,.int .i64 (a:Int)]:List Value)[j]?:=fun j=>zr hq
  have w1:∀y,Heap.write1 h ⟨q,2,some 0⟩ y=some (h.set q (.cells [ks,rs,y,.int .i64 (a:Int)] 0 false)):=fun y=>by rw [jo hq (by simp)];rfl
  have w2:∀y,Heap.write1 (h.set q (.cells [ks,rs,.int .i64 (c:Int),.int .i64 (a:Int)] 0 false)) ⟨q,3,some 0⟩ y=some (h.set q (.cells [ks,rs,.int .i64 (c:Int),y] 0 false)):=fun y=>by
   rw [jo (yox hlt) (by simp),List.set_set];rfl
  simp only [gh,zb,yor,yos,r1,w1,w2,zx,pkA,pkB]
  exact ⟨trivial,yc _ (by simp)⟩
 obtain ⟨v,h',q',rfl,rfl⟩:=this
 exact q'
theorem zs3 {h:Heap} {q x:Nat} {ks rs:Value} {a:Nat} (hx:x≠0) (hq:h[q]?=some (.cells [ks,rs,.int .i64 (x:Int),.int .i64 (a:Int)] 0 false)) (c p:Value):DF FF zt [pt q,c,p] h=some (tup [],h):=by
 have:∃v h',DF FF zt [pt q,c,p] h=some (v,h')∧(v=tup []∧h'=h):=by
  refine yb zab ?_
  have r1:∀j,Heap.read1 h ⟨q,j,some 0⟩=([ks,rs,.int .i64 (x:Int),.int .i64 (a:Int)]:List Value)[j]?:=fun j=>zr hq
  simp only [gh,zb,yor,yos,zz,r1,zlh hx,zx,pkA,pkB]
  exact ⟨trivial,by first | exact yc _ rfl | trivial⟩
 obtain ⟨v,h',q',rfl,rfl⟩:=this
 exact q'
/-- How far the names are looked at. -/
structure KnS (mb:Nat) (H5 K:Heap) (names:Kn) (k:Nat) (ss:Value):Prop where
 ex:∃kn ks x y z,ks=.slice x y z∧K[mb]?=some (.cells [ks,nils,ss] 0 false)∧Own [] K ks 2 (kn.map zw)∧(∀b,blk ks=some b→H5.length≤b)∧fg [] names=fg kn (names.drop k)∧kn.length≤k
 kp:(∀(b:Nat) (o:AObj),H5[b]?=some o→b≠mb→K[b]?=some o)∧H5.length≤K.length
theorem ydb {w:Bys} {kn:Kn}:(idxZ (idxN w kn)<0)=(wn kn w=none):=by
 refine propext ⟨fun h=> ?_,fun h=> ?_⟩
 ·cases hx:idxN w kn with
  | none=>exact idxN_none.1 hx
  | some k=>rw [hx] at h;simp [idxZ] at h;omega
 ·rw [idxN_none.2 h];simp [idxZ]
theorem yf3 {mb:Nat} {H5 K:Heap} {names:Kn} {k:Nat} {ss:Value} (hk:k<names.length) (hkn:names.length≤10000) (hlm:mb<H5.length) (e:KnS mb H5 K names k ss):
  ∃x y z i,Heap.read1 K ⟨mb,0,some 0⟩=some (.slice x y z)∧DF FF qb [.slice x y z,str names[k].1] K=some (.int .i64 i,K)∧
  (((i<0)=False∧KnS mb H5 K names (k+1) ss)∨
   ((i<0)=True∧∃x' y' z' K2 K3,wu (K++[.cells (zw names[k]) 0 false]) 2 24 (.slice x y z) (za5 (K++[.cells (zw names[k]) 0 false]) 2 (.slice (some ⟨K.length,0,some 0⟩) 1 2))=some (.slice x' y' z',K2)∧Heap.write1 K2 ⟨mb,0,some 0⟩ (.slice x' y' z')=some K3∧KnS mb H5 K3 names (k+1) ss)):=by
 obtain ⟨⟨kn,ks,x,y,z,rfl,hm,own,hb,hkl,hle⟩,⟨kp,kl⟩⟩:=e
 have lm:=(yoq.1 hm).1
 rw [yfp hk] at hkl
 refine ⟨x,y,z,_,zr hm,zyj _ own.sl (by omega),?_⟩
 cases hl:wn kn names[k].1 with
 | some b=>
  rw [hl] at hkl
  simp only [Option.isSome_some,if_true] at hkl
  exact .inl ⟨by rw [ydb,hl];simp,⟨kn,_,x,y,z,rfl,hm,own,hb,hkl,by omega⟩,kp,kl⟩
 | none=>
  rw [hl] at hkl
  simp only [Option.isSome_none,yoy,if_false] at hkl
  obtain ⟨s',K2,p1,p2,p3,p4,p5,p6⟩:=own.push (⟨_,rfl⟩:Pre [] K) (row:=zw names[k]) (bytes:=24) rfl (by rw [ypd];unfold wy;omega)
  obtain ⟨x',y',z',rfl⟩:=p2.slice
  have hbm:blk (.slice x y z)≠some mb:=fun h=>by have:=hb _ h;omega
  have hm2:=p5 _ _ hm hbm
  have hb2:∀b,blk (.slice x' y' z')=some b→H5.length≤b:=fun b hb'=>by
   rcases p6 with h | ⟨j,h,h'⟩
   ·rw [h] at hb';exact hb b hb'
   ·rw [h] at hb';cases hb';omega
  refine .inr ⟨by rw [ydb,hl];simp,x',y',z',K2,K2.set mb (.cells [.slice x' y' z',nils,ss] 0 false),p1,by rw [jo hm2 (by simp)];rfl,⟨kn++[names[k]],_,x',y',z',rfl,by rw [yox (yoq.1 hm2).1],?_,hb2,hkl,by simp;omega⟩,fun b o ho n1=> ?_,by rw [yo3];omega⟩
  ·rw [yp8]
   exact p2.keep fun b hb' o ho=>by rw [you (by have:=hb2 b hb';omega)];exact ho
  ·rw [you (yps n1)]
   exact p5 b o (kp b o ho n1) fun h=>by have:=hb b h;have:=(yoq.1 ho).1;omega
/-- What comes of looking at a part. -/
def TyR (h':Heap) (S:Nat→Prop) (b p q:Nat) (ks rs:Value) (kn:Kn) (rc:List Bys) (pl:Nat):CR Ex→Prop
 | .ok e'=>TreeA h' S b p e'∧e'.pl=pl∧Ca h' q ks rs kn rc 0 0
 | .bad c a=>c≠0∧(∃e',TreeA h' S b p e'∧e'.pl=pl)∧Ca h' q ks rs kn rc c a
def TypC (kn:Kn) (rc:List Bys) (rt:Bool) (e:Ex):Prop:=∀(h:Heap) (q b p:Nat) (ks rs:Value) (S:Nat→Prop),Ca h q ks rs kn rc 0 0→TreeA h S b p e→Cc q ks rs S→∃h',DF FF zn [pt q,pt b,.bool rt] h=some (tup [],
 h')∧TyR h' S b p q ks rs kn rc e.pl (chkE kn rc rt e)∧Kq S q h h'
theorem zdb {kn:Kn} {rc:List Bys}:∀{e e':Ex} {rt:Bool},chkE kn rc rt e=.ok e'→e'.pl=e.pl∧e'.fl=e'.set
 | .name s a w,e',rt,h=>by
  rw [chkE] at h
  split at h
  ·cases h
  ·split at h
   ·cases h
   ·cases h;exact ⟨rfl,rfl⟩
 | .zero a,e',rt,h=>by rw [chkE] at h;cases h;exact ⟨rfl,rfl⟩
 | .par s a e,e',rt,h=>by
  rw [chkE] at h
  split at h
  ·cases h
  ·rename_i z hz
   cases h;exact ⟨rfl,(zdb hz).2⟩
 | .box a e,e',rt,h=>by
  rw [chkE] at h
  split at h
  ·cases h
  ·split at h
   ·cases h;exact ⟨rfl,rfl⟩
   ·cases h
 | .un o e,e',rt,h=>by
  rw [chkE] at h
  split at h
  ·cases h
  ·rename_i z hz
   split at h
   ·cases h
   ·cases h;exact ⟨(zdb hz).1,rfl⟩
 | .bin s o l r,e',rt,h=>by
  rw [chkE] at h
  cases hl:chkE kn rc rt l with
  | bad c a=>rw [hl] at h;cases h
  | ok l'=>
   rw [hl] at h
   simp only at h
   have pl:=(zdb hl).1
   cases hr:chkE kn rc (rt || o== .minus) r with
   | bad c a=>rw [hr] at h;cases h
   | ok r'=>
    rw [hr] at h
    cases o <;> simp only at h <;> split at h <;> first | (cases h;done) | skip
    all_goals first | (cases h;exact ⟨pl,rfl⟩) | (split at h <;> first | (cases h;done) | (cases h;exact ⟨pl,rfl⟩))
theorem zhz {q x a:Nat} {ks rs:Value} {h:Heap} (hx:x≠0) (hq:h[q]?=some (.cells [ks,rs,.int .i64 (x:Int),.int .i64 (a:Int)] 0 false)):∀(e:Ex) (S:Nat→Prop) (b p:Nat) (rt:Bool),TreeA h S b p e→DF FF zn [pt q,pt b,.bool rt] h=some (tup [],h)
 | .par s a' e,S,b,p,rt,t=>zhz hx hq e S b p rt t
 | .name s a' w,S,b,p,rt,t=>by
  have rq:∀j,Heap.read1 h ⟨q,j,some 0⟩=([ks,rs,.int .i64 (x:Int),.int .i64 (a:Int)]:List Value)[j]?:=fun j=>zr hq
  have rb:∀j,Heap.read1 h ⟨b,j,some 0⟩=(xe 1 w p a' nilP nilP s)[j]?:=fun j=>zr t.2
  have:∃v h',DF FF zn [pt q,pt b,.bool rt] h=some (v,h')∧(v=tup []∧h'=h):=by
   refine yb yl ?_
   simp only [za,zb,yor,yos,zz,yo4,yz,rb,rq,xr,xp,xm,zl,zhb hx,kv,pkA,pkB]
   exact ⟨trivial,by first | exact yc _ rfl | trivial⟩
  obtain ⟨v,h',r,rfl,rfl⟩:=this
  exact r
 | .zero a',S,b,p,rt,t=>by
  have rq:∀j,Heap.read1 h ⟨q,j,some 0⟩=([ks,rs,.int .i64 (x:Int),.int .i64 (a:Int)]:List Value)[j]?:=fun j=>zr hq
  have rb:∀j,Heap.read1 h ⟨b,j,some 0⟩=(xe 2 [] p 0 nilP nilP false)[j]?:=fun j=>zr t.2
  have:∃v h',DF FF zn [pt q,pt b,.bool rt] h=some (v,h')∧(v=tup []∧h'=h):=by
   refine yb yl ?_
   simp only [za,zb,yor,yos,zz,yo4,yz,rb,rq,xr,xp,xm,zl,zhb hx,kv,pkA,pkB]
   exact ⟨trivial,by first | exact yc _ rfl | trivial⟩
  obtain ⟨v,h',r,rfl,rfl⟩:=this
  exact r
 | .box a' e,S,b,p,rt,t=>by
  obtain ⟨S',c,hb,ho,t',hs⟩:=t
  have ih:=zhz hx hq e S' c e.pl rt t'
  have rq:∀j,Heap.read1 h ⟨q,j,some 0⟩=([ks,rs,.int .i64 (x:Int),.int .i64 (a:Int)]:List Value)[j]?:=fun j=>zr hq
  have rb:∀j,Heap.read1 h ⟨b,j,some 0⟩=(xe 12 [] p 0 (pt c) nilP false)[j]?:=fun j=>zr ho
  have:∃v h',DF FF zn [pt q,pt b,.bool rt] h=some (v,h')∧(v=tup []∧h'=h):=by
   refine yb yl ?_
   simp only [za,zb,yor,yos,zz,yo4,yz,rb,rq,xr,xp,xm,zj,zl,ih,zhb hx,kv,pkA,pkB]
   exact ⟨trivial,by first | exact yc _ rfl | trivial⟩
  obtain ⟨v,h',r,rfl,rfl⟩:=this
  exact r
 | .un o e,S,b,p,rt,t=>by
  obtain ⟨S',c,hb,ho,t',hs⟩:=t
  have ih:=zhz hx hq e S' c e.pl rt t'
  have rq:∀j,Heap.read1 h ⟨q,j,some 0⟩=([ks,rs,.int .i64 (x:Int),.int .i64 (a:Int)]:List Value)[j]?:=fun j=>zr hq
  have rb:∀j,Heap.read1 h ⟨b,j,some 0⟩=(xe (op1D o) [] p 0 (pt c) nilP false)[j]?:=fun j=>zr ho
  have:∃v h',DF FF zn [pt q,pt b,.bool rt] h=some (v,h')∧(v=tup []∧h'=h):=by
   refine yb yl ?_
   simp only [za,zb,yor,yos,zz,yo4,yz,rb,rq,xr,xp,xm,zj,zl,ih,zhb hx,kv,pkA,pkB]
   exact ⟨trivial,by first | exact yc _ rfl | trivial⟩
  obtain ⟨v,h',r,rfl,rfl⟩:=this
  exact r
 | .bin s o l r,S,b,p,rt,t=>by
  obtain ⟨S1,S2,c1,c2,hb,ho,t1,t2,h1,h2⟩:=t
  have ih1:=zhz hx hq l S1 c1 l.pl rt t1
  have ih2:=fun rt'=>zhz hx hq r S2 c2 r.pl rt' t2
  have rq:∀j,Heap.read1 h ⟨q,j,some 0⟩=([ks,rs,.int .i64 (x:Int),.int .i64 (a:Int)]:List Value)[j]?:=fun j=>zr hq
  have rb:∀j,Heap.read1 h ⟨b,j,some 0⟩=(xe (op2D o) [] p 0 (pt c1) (pt c2) s)[j]?:=fun j=>zr ho
  have:∃v h',DF FF zn [pt q,pt b,.bool rt] h=some (v,h')∧(v=tup []∧h'=h):=by
   refine yb yl ?_
   cases rt
   ·simp only [za,zi,zb,yor,yos,zz,yo4,yz,rb,rq,ykj,xr,xp,zj,zl,ih1,ih2,zhb hx,kv,pkA,pkB]
    exact ⟨trivial,by first | exact yc _ rfl | trivial⟩
   ·simp only [za,zi,zb,yor,yos,zz,yo4,yz,rb,rq,xr,xp,zj,zl,ih1,ih2,zhb hx,kv,pkA,pkB]
    exact ⟨trivial,by first | exact yc _ rfl | trivial⟩
  obtain ⟨v,h',r,rfl,rfl⟩:=this
  exact r
def TnI (q b:Nat) (rt:Bool) (ks rs:Value) (rc:List Bys) (w:Bys) (own:Nat) (K0:Heap) (k:Nat) (st:St):Prop:=∃x a,(∃j:Nat→Value,st=⟨[pt q,pt b,.bool rt,j 3,j 4,j 5,j 6,.int .i64 (k:Int),j 8,j 9,j 10,j 11,j 12,j 13,j 14,
 j 15,j 16,j 17,j 18,j 19,j 20,j 21,j 22,j 23,j 24,j 25,j 26,j 27,j 28,j 29,j 30,j 31,j 32,j 33,j 34,j 35,j 36,j 37,j 38,j 39,j 40,j 41,j 42,j 43,j 44,j 45,j 46,j 47,j 48,j 49,j 50,j 51,j 52,j 53,j 54,j 55,j 56,j 57,j 58,
 j 59,j 60,j 61,j 62,j 63,j 64,j 65,j 66,j 67,j 68,j 69,j 70,j 71,j 72,j 73,j 74,j 75,j 76,j 77,j 78,j 79,j 80,j 81,j 82,j 83,j 84,j 85,j 86,j 87,j 88,j 89,j 90,j 91,j 92,j 93,j 94,j 95,j 96,j 97,j 98,j 99,j 100,j 101,
 j 102,j 103,j 104,j 105,j 106,j 107,j 108,j 109,j 110,j 111,j 112,j 113,j 114,j 115,j 116,j 117,j 118,j 119,j 120,j 121,j 122,j 123,j 124,j 125,j 126,j 127,j 128,j 129,j 130,j 131,j 132,j 133,j 134,j 135,j 136,j 137,
 j 138,j 139,j 140,j 141,j 142,j 143,j 144,j 145,j 146,j 147,j 148,j 149,j 150,j 151,j 152,j 153,j 154,j 155,j 156,j 157,j 158,j 159,j 160,j 161,j 162,j 163,j 164,j 165,j 166,j 167,j 168,j 169,j 170,j 171,j 172,j 173,
 j 174,j 175,j 176,j 177,j 178,j 179,j 180,j 181,j 182,j 183,j 184,j 185,j 186,j 187,j 188,j 189,j 190,j 191,j 192,j 193,j 194,j 195,j 196,j 197,j 198,j 199,j 200,j 201,j 202,j 203,j 204,j 205,j 206,j 207,j 208,j 209,
 j 210,j 211,j 212,j 213,j 214,j 215,j 216,j 217,j 218,j 219,j 220,j 221,j 222,j 223,j 224,j 225,j 226,j 227,j 228,j 229,j 230,j 231,j 232,j 233,j 234,j 235,j 236,j 237,j 238,j 239,j 240,j 241,j 242,j 243,j 244,j 245,
 j 246,j 247,j 248,j 249,j 250,j 251,j 252,j 253,j 254,j 255],K0.set q (.cells [ks,rs,.int .i64 ((x:Nat):Int),
 .int .i64 ((a:Nat):Int)] 0 false)⟩)∧((x=0∧a=0∧(rt&&(rc.take k).contains w)=false)∨(x=43∧a=own∧(rt&&rc.contains w)=true))
def TnO (q:Nat) (rt:Bool) (ks rs:Value) (rc:List Bys) (w:Bys) (own:Nat) (K0:Heap) (st:St):Prop:=∃x a,(∃j:Nat→Value,st=⟨[j 0,j 1,j 2,j 3,j 4,j 5,j 6,j 7,j 8,j 9,j 10,j 11,j 12,j 13,j 14,j 15,j 16,j 17,j 18,j 19,j 20,j 21,
 j 22,j 23,j 24,j 25,j 26,j 27,j 28,j 29,j 30,j 31,j 32,j 33,j 34,j 35,j 36,j 37,j 38,j 39,j 40,j 41,j 42,j 43,j 44,j 45,j 46,j 47,j 48,j 49,j 50,j 51,j 52,j 53,j 54,j 55,j 56,j 57,j 58,j 59,j 60,j 61,j 62,j 63,j 64,j 65,
 j 66,j 67,j 68,j 69,j 70,j 71,j 72,j 73,j 74,j 75,j 76,j 77,j 78,j 79,j 80,j 81,j 82,j 83,j 84,j 85,j 86,j 87,j 88,j 89,j 90,j 91,j 92,j 93,j 94,j 95,j 96,j 97,j 98,j 99,j 100,j 101,j 102,j 103,j 104,j 105,j 106,j 107,
 j 108,j 109,j 110,j 111,j 112,j 113,j 114,j 115,j 116,j 117,j 118,j 119,j 120,j 121,j 122,j 123,j 124,j 125,j 126,j 127,j 128,j 129,j 130,j 131,j 132,j 133,j 134,j 135,j 136,j 137,j 138,j 139,j 140,j 141,j 142,j 143,
 j 144,j 145,j 146,j 147,j 148,j 149,j 150,j 151,j 152,j 153,j 154,j 155,j 156,j 157,j 158,j 159,j 160,j 161,j 162,j 163,j 164,j 165,j 166,j 167,j 168,j 169,j 170,j 171,j 172,j 173,j 174,j 175,j 176,j 177,j 178,j 179,
 j 180,j 181,j 182,j 183,j 184,j 185,j 186,j 187,j 188,j 189,j 190,j 191,j 192,j 193,j 194,j 195,j 196,j 197,j 198,j 199,j 200,j 201,j 202,j 203,j 204,j 205,j 206,j 207,j 208,j 209,j 210,j 211,j 212,j 213,j 214,j 215,
 j 216,j 217,j 218,j 219,j 220,j 221,j 222,j 223,j 224,j 225,j 226,j 227,j 228,j 229,j 230,j 231,j 232,j 233,j 234,j 235,j 236,j 237,j 238,j 239,j 240,j 241,j 242,j 243,j 244,j 245,j 246,j 247,j 248,j 249,j 250,j 251,
 j 252,j 253,j 254,j 255],K0.set q (.cells [ks,rs,.int .i64 ((x:Nat):Int),.int .i64 ((a:Nat):Int)] 0 false)⟩)∧((x=0∧a=0∧(rt&&rc.contains w)=false)∨(x=43∧a=own∧(rt&&rc.contains w)=true))
set_option maxHeartbeats 8000000 in
theorem zzy (kn:Kn) (rc:List Bys) (s:Bool) (a:Nat) (w:Bys) (rt:Bool) (hk:kn.length<4611686018427387904) (hrc:rc.length<4611686018427387904):TypC kn rc rt (.name s a w):=by
 intro h q b p ks rs S c t cl
 obtain ⟨hbS,hbo⟩:=t
 have nbq:b≠q:=fun e=>cl.nq (e▸hbS)
 have:∃v h',DF FF zn [pt q,pt b,.bool rt] h=some (v,h')∧(v=tup []∧TyR h' S b p q ks rs kn rc a (chkE kn rc rt (.name s a w))∧Kq S q h h'):=by
  refine yb yl ?_
  have rq:∀j,Heap.read1 h ⟨q,j,some 0⟩=([ks,rs,.int .i64 0,.int .i64 0]:List Value)[j]?:=fun j=>zr c.cq
  have rb:∀j,Heap.read1 h ⟨b,j,some 0⟩=(xe 1 w p a nilP nilP s)[j]?:=fun j=>zr hbo
  have d0:∀t,(xe 1 w p a nilP nilP t)[0]?=some (.int .i64 1):=fun t=>rfl
  have fd:=zyj w c.ck hk
  have hlq:=(yoq.1 c.cq).1
  have hlb:=(yoq.1 hbo).1
  have qset:∀(K:Heap) o,K.length=h.length→(∀z o,h[z]?=some o→¬S z→z≠q→K[z]?=some o)→Kq S q h (K.set q o):=fun K o hl hk=>⟨fun z o' ho n1 n2=>by rw [you (yps n2)];exact hk z o' ho n1 n2,by rw [yo3];exact hl⟩
  cases hi:idxN w kn with
  | none=>
   have hl:=idxN_none.1 hi
   rw [hi] at fd
   have ff:=zaq (a:=0) c.cq 40 a
   simp only [yov] at ff
   have hR:chkE kn rc rt (.name s a w)=.bad 40 a:=by rw [chkE,hl]
   rw [hR]
   simp only [za,zb,yor,yos,yo4,yz,yqd,yo7,rb,rq,d0,znv,zwa,xr,xp,xm,zl,fd,idxZ,ff,kv,pkA,pkB]
   rw [yc _ (by simp)]
   have k1:=qset h (.cells [ks,rs,.int .i64 40,.int .i64 (a:Int)] 0 false) rfl fun z o ho _ _=>ho
   exact ⟨trivial,⟨by omega,⟨.name s a w,⟨hbS,by rw [you (yps nbq)];exact hbo⟩,rfl⟩,c.kq k1 cl (by rw [yox hlq];rfl)⟩,k1⟩
  | some i=>
   have hil:=zvi hi
   rw [hi] at fd
   obtain ⟨bb,o,v,a1,a2⟩:=c.ck.atH (k:=i) (by simpa using hil)
   have hl:wn kn w=some kn[i].2:=by rw [zns,hi];simp [yow hil]
   have a3:Heap.read1 h ⟨bb,o+1,some v⟩=some (.bool kn[i].2):=zb4 (i:=1) a2 (by simp [zw])
   have c0:((i:Int)<0)=False:=by simp
   obtain ⟨K0,hK0⟩:∃K0,K0=h.set b (.cells (xe 1 w p a nilP nilP kn[i].2) 0 false):=⟨_,rfl⟩
   have wb:Heap.write1 h ⟨b,6,some 0⟩ (.bool kn[i].2)=some K0:=by rw [hK0,jo hbo (by simp [xe])];rfl
   have q0:K0[q]?=some (.cells [ks,rs,.int .i64 0,.int .i64 0] 0 false):=by rw [hK0,you nbq];exact c.cq
   have l0:K0.length=h.length:=by rw [hK0];simp
   have kK:∀z o,h[z]?=some o→¬S z→z≠q→K0[z]?=some o:=fun z o ho n1 n2=>by rw [hK0,you (by rintro rfl;exact n1 hbS)];exact ho
   have b0:K0[b]?=some (.cells (xe 1 w p a nilP nilP kn[i].2) 0 false):=by rw [hK0,yox hlb]
   have sl:∀o,Sl (K0.set q o) rs 1 (rc.map pd):=fun o=>c.cr.keep fun z hz o' ho=>by
    rw [you (yps (cl.r z hz).2)]
    exact kK z o' ho (cl.r z hz).1 (cl.r z hz).2
   have lr:∀H,lenO H rs=some (.int .i64 (rc.length:Int),H):=fun H=>by rw [c.cr.len,ypd]
   simp only [za,zb,yor,yos,yo4,yz,yo7,rb,rq,d0,znv,xr,xp,xm,zl,fd,idxZ,c0,a1,a3,wb,pkA,pkB]
   have s0:K0=K0.set q (.cells [ks,rs,.int .i64 ((0:Nat):Int),.int .i64 ((0:Nat):Int)] 0 false):=(zxn q0).symm
   refine jv 1 rc.length (TnI q b rt ks rs rc w a K0) (TnO q rt ks rs rc w a K0) ?_ ?_ _ ⟨0,0,by rw [←s0];exact junk rfl,.inl ⟨rfl,rfl,by cases rt <;> rfl⟩⟩ ?_
   ·rintro k st hk' ⟨x,a',⟨j,rfl⟩,hxa⟩
    have rq':∀j,Heap.read1 (K0.set q (.cells [ks,rs,.int .i64 (x:Int),.int .i64 (a':Int)] 0 false)) ⟨q,j,some 0⟩=([ks,rs,.int .i64 (x:Int),.int .i64 (a':Int)]:List Value)[j]?:=fun j=>zr (by rw [yox (by omega)])
    have rb':∀j,Heap.read1 (K0.set q (.cells [ks,rs,.int .i64 (x:Int),.int .i64 (a':Int)] 0 false)) ⟨b,j,some 0⟩=(xe 1 w p a nilP nilP kn[i].2)[j]?:=fun j=>zr (by rw [you (yps nbq)];exact b0)
    have c1:((k:Int)<(rc.length:Int))=True:=by simp;omega
    cases rt
    ·simp only [zi,zb,x8,zq,rq',lr,c1,x8,pkA,pkB]
     refine ⟨x,a',junk rfl,?_⟩
     rcases hxa with ⟨h1,h2,h3⟩ | ⟨h1,h2,h3⟩
     ·exact .inl ⟨h1,h2,rfl⟩
     ·cases h3
    ·obtain ⟨b2,o2,v2,g1,g2⟩:=(sl (.cells [ks,rs,.int .i64 (x:Int),.int .i64 (a':Int)] 0 false)).atH (k:=k) (by simpa using hk')
     have g3:Heap.read1 (K0.set q (.cells [ks,rs,.int .i64 (x:Int),.int .i64 (a':Int)] 0 false)) ⟨b2,o2,some v2⟩=some (str rc[k]):=bt g2 (by simp [pd])
     have tk:(rc.take (k+1)).contains w=((rc.take k).contains w || (w==rc[k])):=by
      rw [List.take_add_one,yow hk',Option.toList_some,List.contains_append,List.contains_cons];simp only [List.contains_nil,Bool.or_false]
     cases hw:rc[k]==w
     ·have hw':(w==rc[k])=false:=by rw [beq_eq_false_iff_ne] at hw ⊢;exact fun e=>hw e.symm
      simp only [zi,zb,zc,yf,rq',rb',lr,c1,g1,g3,znv,hw,zs (k:=k) (by omega),pkA,pkB]
      refine ⟨x,a',junk rfl,?_⟩
      rcases hxa with ⟨h1,h2,h3⟩ | h3
      ·exact .inl ⟨h1,h2,by rw [tk,hw'];simpa using h3⟩
      ·exact .inr h3
     ·have hc:(true&&rc.contains w)=true:=by
       have:rc[k]=w:=eq_of_beq hw
       rw [←this];simp
      rcases hxa with ⟨rfl,rfl,h3⟩ | ⟨rfl,ha',h3⟩
      ·have ff:=zaq (ks:=ks) (rs:=rs) (a:=0) (h:=K0.set q (.cells [ks,rs,.int .i64 ((0:Nat):Int),.int .i64 ((0:Nat):Int)] 0 false)) (q:=q) (by rw [yox (by omega)];rfl) 43 a
       rw [List.set_set,yov] at ff
       simp only [zi,zb,zc,yf,rq',rb',lr,c1,g1,g3,znv,zwa,hw,ff,zs (k:=k) (by omega),pkA,pkB]
       exact ⟨43,a,junk rfl,.inr ⟨rfl,rfl,hc⟩⟩
      ·have ff:=zs3 (ks:=ks) (rs:=rs) (x:=43) (a:=a') (h:=K0.set q (.cells [ks,rs,.int .i64 ((43:Nat):Int),.int .i64 (a':Int)] 0 false)) (q:=q) (by omega) (by rw [yox (by omega)])
       simp only [zi,zb,zc,yf,rq',rb',lr,c1,g1,g3,znv,zwa,hw,ff,zs (k:=k) (by omega),pkA,pkB]
       exact ⟨43,a',junk rfl,.inr ⟨rfl,ha',h3⟩⟩
   ·rintro st ⟨x,a',⟨j,rfl⟩,hxa⟩
    have rq':∀j,Heap.read1 (K0.set q (.cells [ks,rs,.int .i64 (x:Int),.int .i64 (a':Int)] 0 false)) ⟨q,j,some 0⟩=([ks,rs,.int .i64 (x:Int),.int .i64 (a':Int)]:List Value)[j]?:=fun j=>zr (by rw [yox (by omega)])
    have c1:((rc.length:Int)<(rc.length:Int))=False:=by simp
    simp only [zi,zb,x8,zq,rq',lr,c1,x8,pkA,pkB]
    refine ⟨x,a',junk rfl,?_⟩
    rw [ypq] at hxa
    exact hxa
   rintro st ⟨x,a',⟨j,rfl⟩,hxa⟩
   simp only [ze7,zhs,eq_self,zx]
   rw [yc _ (by rw [yo3];exact l0)]
   have k1:=qset K0 (.cells [ks,rs,.int .i64 (x:Int),.int .i64 (a':Int)] 0 false) l0 kK
   have cc:=c.kq k1 cl (x':=x) (a':=a') (by rw [yox (by omega)])
   have tt:TreeA (K0.set q (.cells [ks,rs,.int .i64 (x:Int),.int .i64 (a':Int)] 0 false)) S b p (.name kn[i].2 a w):=⟨hbS,by rw [you (yps nbq)];exact b0⟩
   refine ⟨trivial,?_,k1⟩
   rcases hxa with ⟨rfl,rfl,h3⟩ | ⟨rfl,ha',h3⟩
   ·have hR:chkE kn rc rt (.name s a w)=.ok (.name kn[i].2 a w):=by rw [chkE,hl];simp only [h3,yoy,if_false]
    rw [hR]
    exact ⟨tt,rfl,cc⟩
   ·have hR:chkE kn rc rt (.name s a w)=.bad 43 a':=by rw [chkE,hl,ha'];simp only [h3,if_true]
    rw [hR]
    exact ⟨by omega,⟨_,tt,rfl⟩,cc⟩
 obtain ⟨v,h',r,rfl,g⟩:=this
 exact ⟨h',r,g⟩
theorem ycz {kn:Kn} {rc:List Bys} {rt:Bool} {s:Bool} {a:Nat} {e:Ex} (ih:TypC kn rc rt e):TypC kn rc rt (.par s a e):=by
 intro h q b p ks rs S c t cl
 obtain ⟨h',q1,R,k⟩:=ih h q b p ks rs S c t cl
 refine ⟨h',q1,?_,k⟩
 rw [chkE]
 cases hx:chkE kn rc rt e with
 | bad c' a'=>
  rw [hx] at R
  obtain ⟨h1,⟨e',t',hp⟩,h3⟩:=R
  exact ⟨h1,⟨.par s a e',t',rfl⟩,h3⟩
 | ok e'=>
  rw [hx] at R
  obtain ⟨t',hp,h3⟩:=R
  exact ⟨t',rfl,h3⟩
theorem zz0 (kn:Kn) (rc:List Bys) (rt:Bool) (a:Nat):TypC kn rc rt (.zero a):=by
 intro h q b p ks rs S c t cl
 have:∃v h',DF FF zn [pt q,pt b,.bool rt] h=some (v,h')∧(v=tup []∧h'=h):=by
  refine yb yl ?_
  have rq:∀j,Heap.read1 h ⟨q,j,some 0⟩=([ks,rs,.int .i64 0,.int .i64 0]:List Value)[j]?:=fun j=>zr c.cq
  have rb:∀j,Heap.read1 h ⟨b,j,some 0⟩=(xe 2 [] p 0 nilP nilP false)[j]?:=fun j=>zr t.2
  have d0:(xe 2 [] p 0 nilP nilP false)[0]?=some (.int .i64 2):=rfl
  simp only [za,zb,yor,yos,zz,yo4,yz,yo7,ypk,rb,rq,d0,xr,xp,xm,zl,zx,pkA,pkB]
  exact ⟨trivial,by first | exact yc _ rfl | trivial⟩
 obtain ⟨v,h',r,rfl,rfl⟩:=this
 refine ⟨_,r,?_,Kq.refl _ _ _⟩
 rw [chkE];exact ⟨t,rfl,c⟩
def OneF (h1:Heap) (S':Nat→Prop) (c q:Nat) (ks rs:Value) (kn:Kn) (rc:List Bys) (pl:Nat):CR Ex→Prop
 | .ok e'=>(∃k' w o l r,h1[c]?=some (.cells (xe k' w pl o l r e'.fl) 0 false))∧TreeA h1 S' c e'.pl e'∧Ca h1 q ks rs kn rc 0 0
 | .bad c' a'=>c'≠0∧(∃e',TreeA h1 S' c e'.pl e'∧e'.pl=pl)∧Ca h1 q ks rs kn rc c' a'
theorem yjj {h h1:Heap} {q b c k p:Nat} {ks rs:Value} {kn:Kn} {rc:List Bys} {S S':Nat→Prop} {R:CR Ex} {pl:Nat} (cl:Cc q ks rs S) (hb:S b) (ho:h[b]?=some (.cells (xe k [] p 0 (pt c) nilP false) 0 false)) (hs:∀y,S' y→S y∧y≠b) (k1:Kq S' q h h1) (r1:TyR h1 S' c pl q ks rs kn rc pl R):
  h1[b]?=some (.cells (xe k [] p 0 (pt c) nilP false) 0 false)∧Kq S q h h1∧OneF h1 S' c q ks rs kn rc pl R:=by
 have nbq:b≠q:=fun e=>cl.nq (e▸hb)
 refine ⟨k1.keep _ _ ho (fun hh=>(hs b hh).2 rfl) nbq,k1.weak fun z hz=>(hs z hz).1,?_⟩
 cases R with
 | ok e'=>
  obtain ⟨t,hp,c1⟩:=r1
  obtain ⟨k',w,o,l,r,_,hc⟩:=t.root
  exact ⟨⟨k',w,o,l,r,hc⟩,by rw [hp];exact t,c1⟩
 | bad c' a'=>
  obtain ⟨h0,⟨e',t,hp⟩,c1⟩:=r1
  exact ⟨h0,⟨e',by rw [hp];exact t,hp⟩,c1⟩
theorem zp3 {h1:Heap} {q:Nat} {ks rs:Value} {kn:Kn} {rc:List Bys} {S:Nat→Prop} {h:Heap} (c1:Ca h1 q ks rs kn rc 0 0) (cl:Cc q ks rs S) (k:Kq S q h h1) (x a:Nat):
  Ca (h1.set q (.cells [ks,rs,.int .i64 (x:Int),.int .i64 (a:Int)] 0 false)) q ks rs kn rc x a∧Kq S q h (h1.set q (.cells [ks,rs,.int .i64 (x:Int),.int .i64 (a:Int)] 0 false))∧∀z o,h1[z]?=some o→z≠q→(h1.set q (.cells [ks,rs,.int .i64 (x:Int),.int .i64 (a:Int)] 0 false))[z]?=some o:=by
 have hl:=(yoq.1 c1.cq).1
 have kk:Kq S q h1 (h1.set q (.cells [ks,rs,.int .i64 (x:Int),.int .i64 (a:Int)] 0 false)):=⟨fun z o ho n1 n2=>by rw [you (yps n2)];exact ho,by simp⟩
 exact ⟨c1.kq kk cl (by rw [yox hl]),(k.trans kk).weak fun z hz=>hz.elim id id,fun z o ho n=>by rw [you (yps n)];exact ho⟩
set_option maxHeartbeats 4000000 in
theorem ycj {kn:Kn} {rc:List Bys} {rt:Bool} {a:Nat} {e:Ex} (ih:TypC kn rc rt e):TypC kn rc rt (.box a e):=by
 intro h q b p ks rs S c t cl
 obtain ⟨S',cc,hb,ho,t',hs⟩:=t
 obtain ⟨h1,q1,r1,k1⟩:=ih h q cc e.pl ks rs S' c t' (cl.weak fun z hz=>(hs z hz).1)
 obtain ⟨ho1,kS,fin⟩:=yjj cl hb ho hs k1 r1
 have nbq:b≠q:=fun e=>cl.nq (e▸hb)
 have:∃v h',DF FF zn [pt q,pt b,.bool rt] h=some (v,h')∧(v=tup []∧TyR h' S b p q ks rs kn rc a (chkE kn rc rt (.box a e))∧Kq S q h h'):=by
  refine yb yl ?_
  have rb:∀j,Heap.read1 h ⟨b,j,some 0⟩=(xe 12 [] p 0 (pt cc) nilP false)[j]?:=fun j=>zr ho
  have rb1:∀j,Heap.read1 h1 ⟨b,j,some 0⟩=(xe 12 [] p 0 (pt cc) nilP false)[j]?:=fun j=>zr ho1
  have d0:(xe 12 [] p 0 (pt cc) nilP false)[0]?=some (.int .i64 12):=rfl
  cases hx:chkE kn rc rt e with
  | bad x a'=>
   rw [hx] at fin
   have hR:chkE kn rc rt (.box a e)=.bad x a':=by rw [chkE,hx]
   rw [hR]
   obtain ⟨h0,⟨e',te,hp⟩,c1⟩:=fin
   have rq1:∀j,Heap.read1 h1 ⟨q,j,some 0⟩=([ks,rs,.int .i64 (x:Int),.int .i64 (a':Int)]:List Value)[j]?:=fun j=>zr c1.cq
   simp only [za,zb,yor,yos,yo4,yz,rb,rb1,rq1,xr,xp,xm,zj,zl,q1,zhb h0,kv,pkA,pkB]
   rw [yc _ kS.len]
   exact ⟨trivial,⟨h0,⟨.box a e',⟨S',cc,hb,ho1,te,hs⟩,rfl⟩,c1⟩,kS⟩
  | ok e'=>
   rw [hx] at fin
   obtain ⟨⟨k',w,o,l,r,hc⟩,te,c1⟩:=fin
   obtain ⟨hpl,hfl⟩:=zdb hx
   have rq1:∀j,Heap.read1 h1 ⟨q,j,some 0⟩=([ks,rs,.int .i64 0,.int .i64 0]:List Value)[j]?:=fun j=>zr c1.cq
   have rc1:∀j,Heap.read1 h1 ⟨cc,j,some 0⟩=(xe k' w e.pl o l r e'.fl)[j]?:=fun j=>zr hc
   rw [hfl] at rc1
   cases hset:e'.set
   ·have hR:chkE kn rc rt (.box a e)=.bad 41 e.pl:=by rw [chkE,hx];simp only [hset,yoy,if_false]
    rw [hR]
    obtain ⟨c2,k2,kp⟩:=zp3 c1 cl kS 41 e.pl
    have ff:=zaq (a:=0) c1.cq 41 e.pl
    simp only [yov] at ff c2 k2 kp
    rw [hset] at rc1
    simp only [za,zb,yor,yos,yo4,yz,yo7,ypk,rb,rb1,rq1,rc1,d0,ko,xr,xp,wx,xm,zj,zl,q1,ff,zx,pkA,pkB]
    rw [yc _ k2.len]
    exact ⟨trivial,⟨by omega,⟨.box a e',⟨S',cc,hb,kp _ _ ho1 nbq,te.keep fun z o hz ho=>kp z o ho (fun hh=>cl.nq (hh▸(hs z hz).1)),hs⟩,rfl⟩,c2⟩,k2⟩
   ·have hR:chkE kn rc rt (.box a e)=.ok (.box a e'):=by rw [chkE,hx];simp only [hset,if_true]
    rw [hR]
    rw [hset] at rc1
    simp only [za,zb,yor,yos,yo4,yz,yo7,ypk,rb,rb1,rq1,rc1,d0,xr,xp,wx,xm,zj,zl,q1,zx,pkA,pkB]
    rw [yc _ kS.len]
    exact ⟨trivial,⟨⟨S',cc,hb,ho1,te,hs⟩,rfl,c1⟩,kS⟩
 obtain ⟨v,h',r,rfl,g⟩:=this
 exact ⟨h',r,g⟩
set_option maxHeartbeats 4000000 in
theorem yia {kn:Kn} {rc:List Bys} {rt:Bool} {op:Op1} {e:Ex} (ih:TypC kn rc rt e):TypC kn rc rt (.un op e):=by
 intro h q b p ks rs S c t cl
 obtain ⟨S',cc,hb,ho,t',hs⟩:=t
 obtain ⟨h1,q1,r1,k1⟩:=ih h q cc e.pl ks rs S' c t' (cl.weak fun z hz=>(hs z hz).1)
 obtain ⟨ho1,kS,fin⟩:=yjj cl hb ho hs k1 r1
 have nbq:b≠q:=fun e=>cl.nq (e▸hb)
 have:∃v h',DF FF zn [pt q,pt b,.bool rt] h=some (v,h')∧(v=tup []∧TyR h' S b p q ks rs kn rc e.pl (chkE kn rc rt (.un op e))∧Kq S q h h'):=by
  refine yb yl ?_
  have rb:∀j,Heap.read1 h ⟨b,j,some 0⟩=(xe (op1D op) [] p 0 (pt cc) nilP false)[j]?:=fun j=>zr ho
  have rb1:∀j,Heap.read1 h1 ⟨b,j,some 0⟩=(xe (op1D op) [] p 0 (pt cc) nilP false)[j]?:=fun j=>zr ho1
  cases hx:chkE kn rc rt e with
  | bad x a'=>
   rw [hx] at fin
   have hR:chkE kn rc rt (.un op e)=.bad x a':=by rw [chkE,hx]
   rw [hR]
   obtain ⟨h0,⟨e',te,hp⟩,c1⟩:=fin
   have rq1:∀j,Heap.read1 h1 ⟨q,j,some 0⟩=([ks,rs,.int .i64 (x:Int),.int .i64 (a':Int)]:List Value)[j]?:=fun j=>zr c1.cq
   simp only [za,zb,yor,yos,yo4,yz,rb,rb1,rq1,xr,xp,xm,zj,zl,q1,zhb h0,kv,pkA,pkB]
   rw [yc _ kS.len]
   exact ⟨trivial,⟨h0,⟨.un op e',⟨S',cc,hb,ho1,te,hs⟩,hp⟩,c1⟩,kS⟩
  | ok e'=>
   rw [hx] at fin
   obtain ⟨⟨k',w,o,l,r,hc⟩,te,c1⟩:=fin
   obtain ⟨hpl,hfl⟩:=zdb hx
   have rq1:∀j,Heap.read1 h1 ⟨q,j,some 0⟩=([ks,rs,.int .i64 0,.int .i64 0]:List Value)[j]?:=fun j=>zr c1.cq
   have rc1:∀j,Heap.read1 h1 ⟨cc,j,some 0⟩=(xe k' w e.pl o l r e'.fl)[j]?:=fun j=>zr hc
   rw [hfl] at rc1
   have d0:(xe (op1D op) [] p 0 (pt cc) nilP false)[0]?=some (.int .i64 (op1D op:Nat)):=rfl
   cases hset:e'.set
   ·have hR:chkE kn rc rt (.un op e)=.ok (.un op e'):=by rw [chkE,hx];simp only [hset,yoy,if_false]
    rw [hR]
    rw [hset] at rc1
    have goal:True∧TyR h1 S b p q ks rs kn rc e.pl (.ok (.un op e'))∧Kq S q h h1:=⟨trivial,⟨⟨S',cc,hb,ho1,te,hs⟩,hpl,c1⟩,kS⟩
    cases op <;> simp only [op1D,yov] at rb rb1 d0 <;>
     (simp only [za,zb,yor,yos,yo4,yz,yo7,ypk,rb,rb1,rq1,rc1,d0,xr,xp,wx,xm,zj,zl,q1,zx,pkA,pkB]
      rw [yc _ kS.len]
      exact goal)
   ·have hR:chkE kn rc rt (.un op e)=.bad 41 e.pl:=by rw [chkE,hx];simp only [hset,if_true]
    rw [hR]
    obtain ⟨c2,k2,kp⟩:=zp3 c1 cl kS 41 e.pl
    have ff:=zaq (a:=0) c1.cq 41 e.pl
    simp only [yov] at ff c2 k2 kp
    rw [hset] at rc1
    have goal:True∧TyR (h1.set q (.cells [ks,rs,.int .i64 41,.int .i64 (e.pl:Int)] 0 false)) S b p q ks rs kn rc e.pl (.bad 41 e.pl)∧Kq S q h (h1.set q (.cells [ks,rs,.int .i64 41,.int .i64 (e.pl:Int)] 0 false)):=
     ⟨trivial,⟨by omega,⟨.un op e',⟨S',cc,hb,kp _ _ ho1 nbq,te.keep fun z o hz ho=>kp z o ho (fun hh=>cl.nq (hh▸(hs z hz).1)),hs⟩,hpl⟩,c2⟩,k2⟩
    cases op <;> simp only [op1D,yov] at rb rb1 d0 <;>
     (simp only [za,zb,yor,yos,yo4,yz,yo7,ypk,rb,rb1,rq1,rc1,d0,ko,xr,xp,wx,xm,zj,zl,q1,ff,zx,pkA,pkB]
      rw [yc _ k2.len]
      exact goal)
 obtain ⟨v,h',r,rfl,g⟩:=this
 exact ⟨h',r,g⟩
/-- Both parts of a node, looked at. -/
theorem yco {kn:Kn} {rc:List Bys} {rt rt':Bool} {l r:Ex} (ih1:TypC kn rc rt l) (ih2:TypC kn rc rt' r) {h:Heap} {q b p k c1 c2:Nat} {ks rs:Value} {s:Bool} {S S1 S2:Nat→Prop} (c:Ca h q ks rs kn rc 0 0) (cl:Cc q ks rs S)
  (hb:S b) (ho:h[b]?=some (.cells (xe k [] p 0 (pt c1) (pt c2) s) 0 false)) (t1:TreeA h S1 c1 l.pl l) (t2:TreeA h S2 c2 r.pl r) (hs1:∀z,S1 z→S z∧z≠b∧¬S2 z) (hs2:∀z,S2 z→S z∧z≠b):
  ∃h1 h2,DF FF zn [pt q,pt c1,.bool rt] h=some (tup [],h1)∧h1[b]?=some (.cells (xe k [] p 0 (pt c1) (pt c2) s) 0 false)∧DF FF zn [pt q,pt c2,.bool rt'] h1=some (tup [],h2)∧
   h2[b]?=some (.cells (xe k [] p 0 (pt c1) (pt c2) s) 0 false)∧Kq S q h h2∧
   ((∃x a,x≠0∧(match chkE kn rc rt l with | .bad c a=>CR.bad c a | .ok l'=>(match chkE kn rc rt' r with | .bad c a=>CR.bad c a | .ok r'=>(.ok ())):CR Unit)=.bad x a∧Ca h2 q ks rs kn rc x a∧∃l' r',TreeA h2 S1 c1 l'.pl l'∧TreeA h2 S2 c2 r'.pl r'∧l'.pl=l.pl)∨
    ∃l' r',chkE kn rc rt l=.ok l'∧chkE kn rc rt' r=.ok r'∧Ca h2 q ks rs kn rc 0 0∧TreeA h2 S1 c1 l'.pl l'∧TreeA h2 S2 c2 r'.pl r'∧l'.pl=l.pl∧r'.pl=r.pl∧
    (∃k' w o x y,h2[c1]?=some (.cells (xe k' w l.pl o x y l'.set) 0 false))∧∃k' w o x y,h2[c2]?=some (.cells (xe k' w r.pl o x y r'.set) 0 false)):=by
 have nbq:b≠q:=fun e=>cl.nq (e▸hb)
 obtain ⟨h1,q1,r1,k1⟩:=ih1 h q c1 l.pl ks rs S1 c t1 (cl.weak fun z hz=>(hs1 z hz).1)
 have o1:=k1.keep _ _ ho (fun hh=>(hs1 b hh).2.1 rfl) nbq
 have t2':TreeA h1 S2 c2 r.pl r:=t2.keep fun z o hz ho=>k1.keep z o ho (fun hh=>(hs1 z hh).2.2 hz) (fun e=>cl.nq (e▸(hs2 z hz).1))
 have kS1:=k1.weak (S':=S) fun z hz=>(hs1 z hz).1
 cases hx:chkE kn rc rt l with
 | bad x a=>
  rw [hx] at r1
  obtain ⟨h0,⟨l',tl,pl⟩,ca⟩:=r1
  refine ⟨h1,h1,q1,o1,zhz h0 ca.cq r S2 c2 r.pl rt' t2',o1,kS1,.inl ⟨x,a,h0,rfl,ca,l',r,by rw [pl];exact tl,t2',pl⟩⟩
 | ok l'=>
  rw [hx] at r1
  obtain ⟨tl,pl,ca⟩:=r1
  obtain ⟨h2,q2,r2,k2⟩:=ih2 h1 q c2 r.pl ks rs S2 ca t2' (cl.weak fun z hz=>(hs2 z hz).1)
  have o2:=k2.keep _ _ o1 (fun hh=>(hs2 b hh).2 rfl) nbq
  have tl2:TreeA h2 S1 c1 l.pl l':=tl.keep fun z o hz ho=>k2.keep z o ho (hs1 z hz).2.2 (fun e=>cl.nq (e▸(hs1 z hz).1))
  have kS2:Kq S q h h2:=(kS1.trans (k2.weak (S':=S) fun z hz=>(hs2 z hz).1)).weak fun z hz=>hz.elim id id
  cases hy:chkE kn rc rt' r with
  | bad x a=>
   rw [hy] at r2
   obtain ⟨h0,⟨r',tr,pr⟩,cb⟩:=r2
   exact ⟨h1,h2,q1,o1,q2,o2,kS2,.inl ⟨x,a,h0,rfl,cb,l',r',by rw [pl];exact tl2,by rw [pr];exact tr,pl⟩⟩
  | ok r'=>
   rw [hy] at r2
   obtain ⟨tr,pr,cb⟩:=r2
   have f1:=(zdb hx).2
   have f2:=(zdb hy).2
   obtain ⟨k1',w1,o1',x1,y1,_,n1⟩:=tl2.root
   obtain ⟨k2',w2,o2',x2,y2,_,n2⟩:=tr.root
   rw [f1] at n1
   rw [f2] at n2
   exact ⟨h1,h2,q1,o1,q2,o2,kS2,.inr ⟨l',r',rfl,rfl,cb,by rw [pl];exact tl2,by rw [pr];exact tr,pl,pr,⟨_,_,_,_,_,n1⟩,_,_,_,_,_,n2⟩⟩
set_option maxHeartbeats 16000000 in
theorem yfa {kn:Kn} {rc:List Bys} {rt:Bool} {s:Bool} {op:Op2} {l r:Ex} (ih1:TypC kn rc rt l) (ih2:TypC kn rc (rt || op== .minus) r):TypC kn rc rt (.bin s op l r):=by
 intro h q b p ks rs S c t cl
 obtain ⟨S1,S2,c1,c2,hb,ho,t1,t2,hs1,hs2⟩:=t
 have nbq:b≠q:=fun e=>cl.nq (e▸hb)
 obtain ⟨h1,h2,q1,o1,q2,o2,kS,fin⟩:=yco ih1 ih2 c cl hb ho t1 t2 hs1 hs2
 have:∃v h',DF FF zn [pt q,pt b,.bool rt] h=some (v,h')∧(v=tup []∧TyR h' S b p q ks rs kn rc l.pl (chkE kn rc rt (.bin s op l r))∧Kq S q h h'):=by
  refine yb yl ?_
  have rb:∀j,Heap.read1 h ⟨b,j,some 0⟩=(xe (op2D op) [] p 0 (pt c1) (pt c2) s)[j]?:=fun j=>zr ho
  have rb1:∀j,Heap.read1 h1 ⟨b,j,some 0⟩=(xe (op2D op) [] p 0 (pt c1) (pt c2) s)[j]?:=fun j=>zr o1
  have rb2:∀j,Heap.read1 h2 ⟨b,j,some 0⟩=(xe (op2D op) [] p 0 (pt c1) (pt c2) s)[j]?:=fun j=>zr o2
  have hlb:=(yoq.1 o2).1
  rcases fin with ⟨x,a,h0,hR,ca,l',r',tl,tr,pl⟩ | ⟨l',r',hl,hr,ca,tl,tr,pl,pr,⟨k1,w1,oo1,x1,y1,n1⟩,k2,w2,oo2,x2,y2,n2⟩
  ·have hE:chkE kn rc rt (.bin s op l r)=.bad x a:=by
    rw [chkE]
    cases hx:chkE kn rc rt l with
    | bad c a=>rw [hx] at hR;simpa using hR
    | ok l2=>
     rw [hx] at hR
     simp only at hR ⊢
     cases hy:chkE kn rc (rt || op== .minus) r with
     | bad c a=>rw [hy] at hR;simpa using hR
     | ok r2=>rw [hy] at hR;cases hR
   rw [hE]
   have rq2:∀j,Heap.read1 h2 ⟨q,j,some 0⟩=([ks,rs,.int .i64 (x:Int),.int .i64 (a:Int)]:List Value)[j]?:=fun j=>zr ca.cq
   have goal:True∧TyR h2 S b p q ks rs kn rc l.pl (.bad x a)∧Kq S q h h2:=⟨trivial,⟨h0,⟨.bin s op l' r',⟨S1,S2,c1,c2,hb,o2,tl,tr,hs1,hs2⟩,pl⟩,ca⟩,kS⟩
   have d0:(xe (op2D op) [] p 0 (pt c1) (pt c2) s)[0]?=some (.int .i64 (op2D op:Nat)):=rfl
   cases rt
   ·cases op <;> simp only [op2D,yov] at rb rb1 rb2 d0 q2 <;> simp only [ypz,show (Op2.or==Op2.minus)=false from rfl,show (Op2.and==Op2.minus)=false from rfl,show (Op2.minus==Op2.minus)=true from rfl,show (Op2.seq==Op2.minus)=false from rfl,show (Op2.cross==Op2.minus)=false from rfl] at q2 <;>
     (simp only [za,zi,zb,yor,yos,yo4,yz,ypk,rb,rb1,rq2,d0,xr,xp,zj,zl,q1,q2,zhb h0,kv,pkA,pkB]
      rw [yc _ kS.len]
      exact goal)
   ·rw [yqg] at q2
    simp only [za,zi,zb,yor,yos,yo4,yz,rb,rb1,rq2,xr,xp,zj,zl,q1,q2,zhb h0,kv,pkA,pkB]
    rw [yc _ kS.len]
    exact goal
  ·have rq2:∀j,Heap.read1 h2 ⟨q,j,some 0⟩=([ks,rs,.int .i64 0,.int .i64 0]:List Value)[j]?:=fun j=>zr ca.cq
   have rn1:∀j,Heap.read1 h2 ⟨c1,j,some 0⟩=(xe k1 w1 l.pl oo1 x1 y1 l'.set)[j]?:=fun j=>zr n1
   have rn2:∀j,Heap.read1 h2 ⟨c2,j,some 0⟩=(xe k2 w2 r.pl oo2 x2 y2 r'.set)[j]?:=fun j=>zr n2
   have d0:∀s,(xe (op2D op) [] p 0 (pt c1) (pt c2) s)[0]?=some (.int .i64 (op2D op:Nat)):=fun _=>rfl
   have same:∀s',TreeA h2 S b p (.bin s op l' r')→s'=s→True:=fun _ _ _=>trivial
   have good:TreeA h2 S b p (.bin s op l' r'):=⟨S1,S2,c1,c2,hb,o2,tl,tr,hs1,hs2⟩
   have failT:∀(x a:Nat),x≠0→(True∧TyR (h2.set q (.cells [ks,rs,.int .i64 (x:Int),.int .i64 (a:Int)] 0 false)) S b p q ks rs kn rc l.pl (.bad x a)∧Kq S q h (h2.set q (.cells [ks,rs,.int .i64 (x:Int),.int .i64 (a:Int)] 0 false))):=fun x a hx=>by
    obtain ⟨ca2,k2',kp⟩:=zp3 ca cl kS x a
    exact ⟨trivial,⟨hx,⟨.bin s op l' r',good.keep fun z o hz ho=>kp z o ho fun e=>cl.nq (e▸hz),pl⟩,ca2⟩,k2'⟩
   have fl1:=zaq (a:=0) ca.cq 41 l.pl
   have fr1:=zaq (a:=0) ca.cq 41 r.pl
   simp only [yov] at fl1 fr1
   have lenf:∀o,(h2.set q o).length=h.length:=fun o=>by rw [yo3];exact kS.len
   have failL:=failT 41 l.pl (by omega)
   have failR:=failT 41 r.pl (by omega)
   simp only [yov] at failL failR
   have okT:True∧TyR h2 S b p q ks rs kn rc l.pl (.ok (.bin s op l' r'))∧Kq S q h h2:=⟨trivial,⟨good,pl,ca⟩,kS⟩
   have rqF:∀j,Heap.read1 (h2.set q (.cells [ks,rs,.int .i64 41,.int .i64 (l.pl:Int)] 0 false)) ⟨q,j,some 0⟩=([ks,rs,.int .i64 41,.int .i64 (l.pl:Int)]:List Value)[j]?:=fun j=>zr (by rw [yox (yoq.1 ca.cq).1])
   have nc1:c1≠q:=fun e=>by obtain ⟨_,_,_,_,_,hh,_⟩:=tl.root;exact cl.nq (e▸(hs1 _ hh).1)
   have nc2:c2≠q:=fun e=>by obtain ⟨_,_,_,_,_,hh,_⟩:=tr.root;exact cl.nq (e▸(hs2 _ hh).1)
   have rbF:∀o j,Heap.read1 (h2.set q o) ⟨b,j,some 0⟩=(xe (op2D op) [] p 0 (pt c1) (pt c2) s)[j]?:=fun o j=>zr (by rw [you (yps nbq)];exact o2)
   have rn2F:∀o j,Heap.read1 (h2.set q o) ⟨c2,j,some 0⟩=(xe k2 w2 r.pl oo2 x2 y2 r'.set)[j]?:=fun o j=>zr (by rw [you (yps nc2)];exact n2)
   have frF:=zs3 (ks:=ks) (rs:=rs) (x:=41) (a:=l.pl) (h:=h2.set q (.cells [ks,rs,.int .i64 ((41:Nat):Int),.int .i64 (l.pl:Int)] 0 false)) (q:=q) (by omega) (by rw [yox (yoq.1 ca.cq).1])
   simp only [yov] at frF
   have chk:chkE kn rc rt (.bin s op l r)=(match op with
    | .seq=>if l'.set then .bad 41 l.pl else if r'.set then .bad 41 r.pl else .ok (.bin s op l' r')
    | .cross=>if !l'.set then .bad 41 l.pl else if !r'.set then .bad 41 r.pl else .ok (.bin s op l' r')
    | _=>if r'.set !=l'.set then .bad 41 r.pl else .ok (.bin l'.set op l' r')):=by
    rw [chkE,hl];simp only [hr];cases op <;> rfl
   rw [chk]
   have eqb:∀x y:Bool,ve .bool (.bool x) (.bool y)=some (x==y):=fun _ _=>rfl
   cases op
   case or=>
    have opm:(Op2.or==Op2.minus)=false:=rfl
    simp only [op2D,yov] at rb rb1 rb2 d0 rbF
    simp only
    obtain ⟨h3,hh3⟩:∃h3,h3=h2.set b (.cells (xe 3 [] p 0 (pt c1) (pt c2) l'.set) 0 false):=⟨_,rfl⟩
    have wb:Heap.write1 h2 ⟨b,6,some 0⟩ (.bool l'.set)=some h3:=by rw [hh3,jo o2 (by simp [xe])];rfl
    have k3:Kq S q h h3:=by rw [hh3];exact kS.set hb _
    have kk:Kq S q h2 h3:=by rw [hh3];exact (Kq.refl S q h2).set hb _
    have nb1:c1≠b:=fun e=>by obtain ⟨_,_,_,_,_,hh,_⟩:=tl.root;exact (hs1 _ hh).2.1 e
    have nb2:c2≠b:=fun e=>by obtain ⟨_,_,_,_,_,hh,_⟩:=tr.root;exact (hs2 _ hh).2 e
    have ca3:Ca h3 q ks rs kn rc 0 0:=ca.kq kk cl (by rw [hh3,you nbq];exact ca.cq)
    have good3:TreeA h3 S b p (.bin l'.set .or l' r'):=⟨S1,S2,c1,c2,hb,by rw [hh3,yox hlb];rfl,tl.keep fun z o hz ho=>by rw [hh3,you (fun e=>(hs1 _ hz).2.1 e.symm)];exact ho,tr.keep fun z o hz ho=>by rw [hh3,you (fun e=>(hs2 _ hz).2 e.symm)];exact ho,hs1,hs2⟩
    have rq3:∀j,Heap.read1 h3 ⟨q,j,some 0⟩=([ks,rs,.int .i64 0,.int .i64 0]:List Value)[j]?:=fun j=>zr ca3.cq
    have rb3:∀j,Heap.read1 h3 ⟨b,j,some 0⟩=(xe 3 [] p 0 (pt c1) (pt c2) l'.set)[j]?:=fun j=>zr (by rw [hh3,yox hlb])
    have rm1:∀j,Heap.read1 h3 ⟨c1,j,some 0⟩=(xe k1 w1 l.pl oo1 x1 y1 l'.set)[j]?:=fun j=>zr (by rw [hh3,you (yps nb1)];exact n1)
    have rm2:∀j,Heap.read1 h3 ⟨c2,j,some 0⟩=(xe k2 w2 r.pl oo2 x2 y2 r'.set)[j]?:=fun j=>zr (by rw [hh3,you (yps nb2)];exact n2)
    have ff3:=zaq (a:=0) ca3.cq 41 r.pl
    simp only [yov] at ff3
    cases hne:(r'.set==l'.set)
    ·have hb':(r'.set !=l'.set)=true:=by rw [bne,hne];rfl
     rw [if_pos hb']
     obtain ⟨ca4,k4,kp4⟩:=zp3 ca3 cl k3 41 r.pl
     simp only [yov] at ca4 k4 kp4
     have fin4:True∧TyR (h3.set q (.cells [ks,rs,.int .i64 41,.int .i64 (r.pl:Int)] 0 false)) S b p q ks rs kn rc l.pl (.bad 41 r.pl)∧Kq S q h (h3.set q (.cells [ks,rs,.int .i64 41,.int .i64 (r.pl:Int)] 0 false)):=
      ⟨trivial,⟨by omega,⟨_,good3.keep fun z o hz ho=>kp4 z o ho fun e=>cl.nq (e▸hz),pl⟩,ca4⟩,k4⟩
     cases rt
     ·simp only [ypz,opm] at q2
      simp only [za,zi,zb,yor,yos,yo4,yz,yo7,ypk,rb,rb1,rb2,rq2,rn1,d0,ko,xr,xp,wx,zj,zl,q1,q2,wb,rb3,rm1,rm2,eqb,hne,ff3,zx,pkA,pkB]
      rw [yc _ (k4.len)]
      exact fin4
     ·simp only [yqg] at q2
      simp only [za,zi,zb,yor,yos,yo4,yz,yo7,ypk,rb,rb1,rb2,rq2,rn1,d0,ko,xr,xp,wx,zj,zl,q1,q2,wb,rb3,rm1,rm2,eqb,hne,ff3,zx,pkA,pkB]
      rw [yc _ (k4.len)]
      exact fin4
    ·have hb':¬(r'.set !=l'.set)=true:=by rw [bne,hne];decide
     rw [if_neg hb']
     have fin4:True∧TyR h3 S b p q ks rs kn rc l.pl (.ok (.bin l'.set .or l' r'))∧Kq S q h h3:=⟨trivial,⟨good3,pl,ca3⟩,k3⟩
     cases rt
     ·simp only [ypz,opm] at q2
      simp only [za,zi,zb,yor,yos,yo4,yz,yo7,ypk,rb,rb1,rb2,rq2,rn1,d0,xr,xp,wx,zj,zl,q1,q2,wb,rb3,rm1,rm2,eqb,hne,zx,pkA,pkB]
      rw [yc _ (k3.len)]
      exact fin4
     ·simp only [yqg] at q2
      simp only [za,zi,zb,yor,yos,yo4,yz,yo7,ypk,rb,rb1,rb2,rq2,rn1,d0,xr,xp,wx,zj,zl,q1,q2,wb,rb3,rm1,rm2,eqb,hne,zx,pkA,pkB]
      rw [yc _ (k3.len)]
      exact fin4
   case and=>
    have opm:(Op2.and==Op2.minus)=false:=rfl
    simp only [op2D,yov] at rb rb1 rb2 d0 rbF
    simp only
    obtain ⟨h3,hh3⟩:∃h3,h3=h2.set b (.cells (xe 4 [] p 0 (pt c1) (pt c2) l'.set) 0 false):=⟨_,rfl⟩
    have wb:Heap.write1 h2 ⟨b,6,some 0⟩ (.bool l'.set)=some h3:=by rw [hh3,jo o2 (by simp [xe])];rfl
    have k3:Kq S q h h3:=by rw [hh3];exact kS.set hb _
    have kk:Kq S q h2 h3:=by rw [hh3];exact (Kq.refl S q h2).set hb _
    have nb1:c1≠b:=fun e=>by obtain ⟨_,_,_,_,_,hh,_⟩:=tl.root;exact (hs1 _ hh).2.1 e
    have nb2:c2≠b:=fun e=>by obtain ⟨_,_,_,_,_,hh,_⟩:=tr.root;exact (hs2 _ hh).2 e
    have ca3:Ca h3 q ks rs kn rc 0 0:=ca.kq kk cl (by rw [hh3,you nbq];exact ca.cq)
    have good3:TreeA h3 S b p (.bin l'.set .and l' r'):=⟨S1,S2,c1,c2,hb,by rw [hh3,yox hlb];rfl,tl.keep fun z o hz ho=>by rw [hh3,you (fun e=>(hs1 _ hz).2.1 e.symm)];exact ho,tr.keep fun z o hz ho=>by rw [hh3,you (fun e=>(hs2 _ hz).2 e.symm)];exact ho,hs1,hs2⟩
    have rq3:∀j,Heap.read1 h3 ⟨q,j,some 0⟩=([ks,rs,.int .i64 0,.int .i64 0]:List Value)[j]?:=fun j=>zr ca3.cq
    have rb3:∀j,Heap.read1 h3 ⟨b,j,some 0⟩=(xe 4 [] p 0 (pt c1) (pt c2) l'.set)[j]?:=fun j=>zr (by rw [hh3,yox hlb])
    have rm1:∀j,Heap.read1 h3 ⟨c1,j,some 0⟩=(xe k1 w1 l.pl oo1 x1 y1 l'.set)[j]?:=fun j=>zr (by rw [hh3,you (yps nb1)];exact n1)
    have rm2:∀j,Heap.read1 h3 ⟨c2,j,some 0⟩=(xe k2 w2 r.pl oo2 x2 y2 r'.set)[j]?:=fun j=>zr (by rw [hh3,you (yps nb2)];exact n2)
    have ff3:=zaq (a:=0) ca3.cq 41 r.pl
    simp only [yov] at ff3
    cases hne:(r'.set==l'.set)
    ·have hb':(r'.set !=l'.set)=true:=by rw [bne,hne];rfl
     rw [if_pos hb']
     obtain ⟨ca4,k4,kp4⟩:=zp3 ca3 cl k3 41 r.pl
     simp only [yov] at ca4 k4 kp4
     have fin4:True∧TyR (h3.set q (.cells [ks,rs,.int .i64 41,.int .i64 (r.pl:Int)] 0 false)) S b p q ks rs kn rc l.pl (.bad 41 r.pl)∧Kq S q h (h3.set q (.cells [ks,rs,.int .i64 41,.int .i64 (r.pl:Int)] 0 false)):=
      ⟨trivial,⟨by omega,⟨_,good3.keep fun z o hz ho=>kp4 z o ho fun e=>cl.nq (e▸hz),pl⟩,ca4⟩,k4⟩
     cases rt
     ·simp only [ypz,opm] at q2
      simp only [za,zi,zb,yor,yos,yo4,yz,yo7,ypk,rb,rb1,rb2,rq2,rn1,d0,ko,xr,xp,wx,zj,zl,q1,q2,wb,rb3,rm1,rm2,eqb,hne,ff3,zx,pkA,pkB]
      rw [yc _ (k4.len)]
      exact fin4
     ·simp only [yqg] at q2
      simp only [za,zi,zb,yor,yos,yo4,yz,yo7,ypk,rb,rb1,rb2,rq2,rn1,d0,ko,xr,xp,wx,zj,zl,q1,q2,wb,rb3,rm1,rm2,eqb,hne,ff3,zx,pkA,pkB]
      rw [yc _ (k4.len)]
      exact fin4
    ·have hb':¬(r'.set !=l'.set)=true:=by rw [bne,hne];decide
     rw [if_neg hb']
     have fin4:True∧TyR h3 S b p q ks rs kn rc l.pl (.ok (.bin l'.set .and l' r'))∧Kq S q h h3:=⟨trivial,⟨good3,pl,ca3⟩,k3⟩
     cases rt
     ·simp only [ypz,opm] at q2
      simp only [za,zi,zb,yor,yos,yo4,yz,yo7,ypk,rb,rb1,rb2,rq2,rn1,d0,xr,xp,wx,zj,zl,q1,q2,wb,rb3,rm1,rm2,eqb,hne,zx,pkA,pkB]
      rw [yc _ (k3.len)]
      exact fin4
     ·simp only [yqg] at q2
      simp only [za,zi,zb,yor,yos,yo4,yz,yo7,ypk,rb,rb1,rb2,rq2,rn1,d0,xr,xp,wx,zj,zl,q1,q2,wb,rb3,rm1,rm2,eqb,hne,zx,pkA,pkB]
      rw [yc _ (k3.len)]
      exact fin4
   case minus=>
    have opm:(Op2.minus==Op2.minus)=true:=rfl
    simp only [op2D,yov] at rb rb1 rb2 d0 rbF
    simp only
    obtain ⟨h3,hh3⟩:∃h3,h3=h2.set b (.cells (xe 5 [] p 0 (pt c1) (pt c2) l'.set) 0 false):=⟨_,rfl⟩
    have wb:Heap.write1 h2 ⟨b,6,some 0⟩ (.bool l'.set)=some h3:=by rw [hh3,jo o2 (by simp [xe])];rfl
    have k3:Kq S q h h3:=by rw [hh3];exact kS.set hb _
    have kk:Kq S q h2 h3:=by rw [hh3];exact (Kq.refl S q h2).set hb _
    have nb1:c1≠b:=fun e=>by obtain ⟨_,_,_,_,_,hh,_⟩:=tl.root;exact (hs1 _ hh).2.1 e
    have nb2:c2≠b:=fun e=>by obtain ⟨_,_,_,_,_,hh,_⟩:=tr.root;exact (hs2 _ hh).2 e
    have ca3:Ca h3 q ks rs kn rc 0 0:=ca.kq kk cl (by rw [hh3,you nbq];exact ca.cq)
    have good3:TreeA h3 S b p (.bin l'.set .minus l' r'):=⟨S1,S2,c1,c2,hb,by rw [hh3,yox hlb];rfl,tl.keep fun z o hz ho=>by rw [hh3,you (fun e=>(hs1 _ hz).2.1 e.symm)];exact ho,tr.keep fun z o hz ho=>by rw [hh3,you (fun e=>(hs2 _ hz).2 e.symm)];exact ho,hs1,hs2⟩
    have rq3:∀j,Heap.read1 h3 ⟨q,j,some 0⟩=([ks,rs,.int .i64 0,.int .i64 0]:List Value)[j]?:=fun j=>zr ca3.cq
    have rb3:∀j,Heap.read1 h3 ⟨b,j,some 0⟩=(xe 5 [] p 0 (pt c1) (pt c2) l'.set)[j]?:=fun j=>zr (by rw [hh3,yox hlb])
    have rm1:∀j,Heap.read1 h3 ⟨c1,j,some 0⟩=(xe k1 w1 l.pl oo1 x1 y1 l'.set)[j]?:=fun j=>zr (by rw [hh3,you (yps nb1)];exact n1)
    have rm2:∀j,Heap.read1 h3 ⟨c2,j,some 0⟩=(xe k2 w2 r.pl oo2 x2 y2 r'.set)[j]?:=fun j=>zr (by rw [hh3,you (yps nb2)];exact n2)
    have ff3:=zaq (a:=0) ca3.cq 41 r.pl
    simp only [yov] at ff3
    cases hne:(r'.set==l'.set)
    ·have hb':(r'.set !=l'.set)=true:=by rw [bne,hne];rfl
     rw [if_pos hb']
     obtain ⟨ca4,k4,kp4⟩:=zp3 ca3 cl k3 41 r.pl
     simp only [yov] at ca4 k4 kp4
     have fin4:True∧TyR (h3.set q (.cells [ks,rs,.int .i64 41,.int .i64 (r.pl:Int)] 0 false)) S b p q ks rs kn rc l.pl (.bad 41 r.pl)∧Kq S q h (h3.set q (.cells [ks,rs,.int .i64 41,.int .i64 (r.pl:Int)] 0 false)):=
      ⟨trivial,⟨by omega,⟨_,good3.keep fun z o hz ho=>kp4 z o ho fun e=>cl.nq (e▸hz),pl⟩,ca4⟩,k4⟩
     cases rt
     ·simp only [ypz,opm] at q2
      simp only [za,zi,zb,yor,yos,yo4,yz,yo7,ypk,rb,rb1,rb2,rq2,rn1,d0,ko,xr,xp,wx,zj,zl,q1,q2,wb,rb3,rm1,rm2,eqb,hne,ff3,zx,pkA,pkB]
      rw [yc _ (k4.len)]
      exact fin4
     ·simp only [yqg] at q2
      simp only [za,zi,zb,yor,yos,yo4,yz,yo7,ypk,rb,rb1,rb2,rq2,rn1,d0,ko,xr,xp,wx,zj,zl,q1,q2,wb,rb3,rm1,rm2,eqb,hne,ff3,zx,pkA,pkB]
      rw [yc _ (k4.len)]
      exact fin4
    ·have hb':¬(r'.set !=l'.set)=true:=by rw [bne,hne];decide
     rw [if_neg hb']
     have fin4:True∧TyR h3 S b p q ks rs kn rc l.pl (.ok (.bin l'.set .minus l' r'))∧Kq S q h h3:=⟨trivial,⟨good3,pl,ca3⟩,k3⟩
     cases rt
     ·simp only [ypz,opm] at q2
      simp only [za,zi,zb,yor,yos,yo4,yz,yo7,ypk,rb,rb1,rb2,rq2,rn1,d0,xr,xp,wx,zj,zl,q1,q2,wb,rb3,rm1,rm2,eqb,hne,zx,pkA,pkB]
      rw [yc _ (k3.len)]
      exact fin4
     ·simp only [yqg] at q2
      simp only [za,zi,zb,yor,yos,yo4,yz,yo7,ypk,rb,rb1,rb2,rq2,rn1,d0,xr,xp,wx,zj,zl,q1,q2,wb,rb3,rm1,rm2,eqb,hne,zx,pkA,pkB]
      rw [yc _ (k3.len)]
      exact fin4
   case seq=>
    have opm:(Op2.seq==Op2.minus)=false:=rfl
    simp only [op2D,yov] at rb rb1 rb2 d0 rbF
    simp only
    cases g1:l'.set
    ·rw [g1] at rn1
     simp only [yoy,if_false]
     cases g2:r'.set
     ·rw [g2] at rn2 rn2F
      try simp only [yoy,if_false]
      cases rt
      ·simp only [ypz,opm] at q2
       simp only [za,zi,zb,yor,yos,yo4,yz,yo7,ypk,rb,rb1,rb2,rq2,rn1,rn2,d0,xr,xp,wx,zj,zl,q1,q2,zx,pkA,pkB]
       rw [yc _ (kS.len)]
       exact okT
      ·simp only [yqg] at q2
       simp only [za,zi,zb,yor,yos,yo4,yz,yo7,ypk,rb,rb1,rb2,rq2,rn1,rn2,d0,xr,xp,wx,zj,zl,q1,q2,zx,pkA,pkB]
       rw [yc _ (kS.len)]
       exact okT
     ·rw [g2] at rn2 rn2F
      try simp only [if_true]
      cases rt
      ·simp only [ypz,opm] at q2
       simp only [za,zi,zb,yor,yos,yo4,yz,yo7,ypk,rb,rb1,rb2,rq2,rn1,rn2,d0,ko,xr,xp,wx,zj,zl,q1,q2,fr1,zx,pkA,pkB]
       rw [yc _ (lenf _)]
       exact failR
      ·simp only [yqg] at q2
       simp only [za,zi,zb,yor,yos,yo4,yz,yo7,ypk,rb,rb1,rb2,rq2,rn1,rn2,d0,ko,xr,xp,wx,zj,zl,q1,q2,fr1,zx,pkA,pkB]
       rw [yc _ (lenf _)]
       exact failR
    ·rw [g1] at rn1
     simp only [if_true]
     cases g2:r'.set
     ·rw [g2] at rn2 rn2F
      try simp only [Bool.not_false,Bool.not_true,yoy,if_true,if_false]
      cases rt
      ·simp only [ypz,opm] at q2
       simp only [za,zi,zb,yor,yos,yo4,yz,yo7,ypk,rb,rb1,rb2,rbF,rq2,rn1,rn2F,d0,ko,xr,xp,wx,zj,zl,q1,q2,fl1,zx,pkA,pkB]
       rw [yc _ (lenf _)]
       exact failL
      ·simp only [yqg] at q2
       simp only [za,zi,zb,yor,yos,yo4,yz,yo7,ypk,rb,rb1,rb2,rbF,rq2,rn1,rn2F,d0,ko,xr,xp,wx,zj,zl,q1,q2,fl1,zx,pkA,pkB]
       rw [yc _ (lenf _)]
       exact failL
     ·rw [g2] at rn2 rn2F
      try simp only [Bool.not_false,Bool.not_true,yoy,if_true,if_false]
      cases rt
      ·simp only [ypz,opm] at q2
       simp only [za,zi,zb,yor,yos,yo4,yz,yo7,ypk,rb,rb1,rb2,rbF,rq2,rn1,rn2F,d0,ko,xr,xp,wx,zj,zl,q1,q2,fl1,frF,zx,pkA,pkB]
       rw [yc _ (lenf _)]
       exact failL
      ·simp only [yqg] at q2
       simp only [za,zi,zb,yor,yos,yo4,yz,yo7,ypk,rb,rb1,rb2,rbF,rq2,rn1,rn2F,d0,ko,xr,xp,wx,zj,zl,q1,q2,fl1,frF,zx,pkA,pkB]
       rw [yc _ (lenf _)]
       exact failL
   case cross=>
    have opm:(Op2.cross==Op2.minus)=false:=rfl
    simp only [op2D,yov] at rb rb1 rb2 d0 rbF
    simp only
    cases g1:l'.set
    ·rw [g1] at rn1
     simp only [Bool.not_false,if_true]
     cases g2:r'.set
     ·rw [g2] at rn2 rn2F
      try simp only [Bool.not_false,Bool.not_true,yoy,if_true,if_false]
      cases rt
      ·simp only [ypz,opm] at q2
       simp only [za,zi,zb,yor,yos,yo4,yz,yo7,ypk,rb,rb1,rb2,rbF,rq2,rn1,rn2F,d0,ko,xr,xp,wx,zj,zl,q1,q2,fl1,frF,zx,pkA,pkB]
       rw [yc _ (lenf _)]
       exact failL
      ·simp only [yqg] at q2
       simp only [za,zi,zb,yor,yos,yo4,yz,yo7,ypk,rb,rb1,rb2,rbF,rq2,rn1,rn2F,d0,ko,xr,xp,wx,zj,zl,q1,q2,fl1,frF,zx,pkA,pkB]
       rw [yc _ (lenf _)]
       exact failL
     ·rw [g2] at rn2 rn2F
      try simp only [Bool.not_false,Bool.not_true,yoy,if_true,if_false]
      cases rt
      ·simp only [ypz,opm] at q2
       simp only [za,zi,zb,yor,yos,yo4,yz,yo7,ypk,rb,rb1,rb2,rbF,rq2,rn1,rn2F,d0,ko,xr,xp,wx,zj,zl,q1,q2,fl1,zx,pkA,pkB]
       rw [yc _ (lenf _)]
       exact failL
      ·simp only [yqg] at q2
       simp only [za,zi,zb,yor,yos,yo4,yz,yo7,ypk,rb,rb1,rb2,rbF,rq2,rn1,rn2F,d0,ko,xr,xp,wx,zj,zl,q1,q2,fl1,zx,pkA,pkB]
       rw [yc _ (lenf _)]
       exact failL
    ·rw [g1] at rn1
     simp only [Bool.not_true,yoy,if_false]
     cases g2:r'.set
     ·rw [g2] at rn2 rn2F
      try simp only [Bool.not_false,if_true]
      cases rt
      ·simp only [ypz,opm] at q2
       simp only [za,zi,zb,yor,yos,yo4,yz,yo7,ypk,rb,rb1,rb2,rq2,rn1,rn2,d0,ko,xr,xp,wx,zj,zl,q1,q2,fr1,zx,pkA,pkB]
       rw [yc _ (lenf _)]
       exact failR
      ·simp only [yqg] at q2
       simp only [za,zi,zb,yor,yos,yo4,yz,yo7,ypk,rb,rb1,rb2,rq2,rn1,rn2,d0,ko,xr,xp,wx,zj,zl,q1,q2,fr1,zx,pkA,pkB]
       rw [yc _ (lenf _)]
       exact failR
     ·rw [g2] at rn2 rn2F
      try simp only [Bool.not_true,yoy,if_false]
      cases rt
      ·simp only [ypz,opm] at q2
       simp only [za,zi,zb,yor,yos,yo4,yz,yo7,ypk,rb,rb1,rb2,rq2,rn1,rn2,d0,xr,xp,wx,zj,zl,q1,q2,zx,pkA,pkB]
       rw [yc _ (kS.len)]
       exact okT
      ·simp only [yqg] at q2
       simp only [za,zi,zb,yor,yos,yo4,yz,yo7,ypk,rb,rb1,rb2,rq2,rn1,rn2,d0,xr,xp,wx,zj,zl,q1,q2,zx,pkA,pkB]
       rw [yc _ (kS.len)]
       exact okT
 obtain ⟨v,h',rr,rfl,g⟩:=this
 exact ⟨h',rr,g⟩
theorem zji (kn:Kn) (rc:List Bys) (hk:kn.length<4611686018427387904) (hrc:rc.length<4611686018427387904):∀(e:Ex) (rt:Bool),TypC kn rc rt e
 | .name s a w,rt=>zzy kn rc s a w rt hk hrc
 | .zero a,rt=>zz0 kn rc rt a
 | .par s a e,rt=>ycz (zji kn rc hk hrc e rt)
 | .box a e,rt=>ycj (zji kn rc hk hrc e rt)
 | .un o e,rt=>yia (zji kn rc hk hrc e rt)
 | .bin s o l r,rt=>yfa (zji kn rc hk hrc l rt) (zji kn rc hk hrc r _)
def fk (gs:List Gv):Kn:=gs.map fun g=>(g.name,false)
theorem zbq (gs:List Gv):(fk gs).length=gs.length:=by simp [fk]
theorem zmn (ds:Kn):((ds.map zw).flatten).length=ds.length*2:=by
 induction ds with
 | nil=>rfl
 | cons d ds ih=>simp [zw] at ih ⊢;omega
theorem zr5 (t:Bool):∀(ds:Kn) (k:Nat) (hk:k<ds.length),((ds.map zw).flatten).set (k*2+1) (.bool t)=((ds.set k (ds[k].1,t)).map zw).flatten
 | [],k,hk=>by simp at hk
 | d::ds,0,hk=>rfl
 | d::ds,k+1,hk=>by
  have:=zr5 t ds k (by simpa using hk)
  rw [show (k+1)*2+1=(k*2+1)+1+1 by omega]
  simp only [ypr,List.flatten_cons,zw,List.cons_append,List.nil_append,List.set_cons_succ,List.getElem_cons_succ]
  rw [this]
theorem Own.putD {h H:Heap} {s:Value} {ds:Kn} (e:Own h H s 2 (ds.map zw)) {k:Nat} (hk:k<ds.length) (t:Bool):
  ∃b ver H',(∀K,rowO K 2 s (.int .i64 (k:Int))=some (.pointer (some ⟨b,k*2,some ver⟩),K))∧Heap.write1 H ⟨b,k*2+1,some ver⟩ (.bool t)=some H'∧Heap.read1 H' ⟨b,k*2+1,some ver⟩=some (.bool t)∧
   Own h H' s 2 ((ds.set k (ds[k].1,t)).map zw)∧blk s=some b∧H'.length=H.length∧∀(i:Nat) (o:AObj),i≠b→H[i]?=some o→H'[i]?=some o:=by
 rcases e with ⟨⟨rfl,hr⟩ | ⟨b,ver,hb,rfl,ho⟩,hc⟩
 ·have:ds=[]:=by simpa using hr
  subst this;simp at hk
 ·have hlt:=(yoq.1 ho).1
  have hl:=zmn ds
  have hin:k*2+1<((ds.map zw).flatten).length:=by omega
  refine ⟨b,ver,H.set b (.cells (((ds.set k (ds[k].1,t)).map zw).flatten) ver false),fun K=> ?_,?_,?_,⟨.inr ⟨b,ver,hb,by simp,?_⟩,by intro r hr;simp only [List.mem_map] at hr;obtain ⟨y,_,rfl⟩:=hr;rfl⟩,rfl,by simp,fun i o hi ho'=> ?_⟩
  ·rw [zro K (by simpa using hk)];simp
  ·simp only [Heap.write1,ho]
   rw [if_pos ⟨trivial,hin⟩,zr5 t ds k hk]
  ·simp only [Heap.read1,yox hlt]
   rw [if_pos trivial,←zr5 t ds k hk,yox hin]
  ·rw [yox hlt]
  ·rw [you (yps hi)];exact ho'
theorem Own.more_rows {K:Heap} {s s2:Value} {c bytes:Nat} {rows rows2:List (List Value)} (e:Own [] K s c rows) (hs:Sl K s2 c rows2) (room:(rows.length+rows2.length)*bytes≤wy):
  ∃s' K',wu K c bytes s (za5 K c s2)=some (s',K')∧Own [] K' s' c (rows++rows2)∧K.length≤K'.length∧(∀i o,K[i]?=some o→blk s≠some i→K'[i]?=some o)∧(blk s'=blk s∨∃i,blk s'=some i∧K.length≤i):=by
 rw [hs.src0]
 obtain ⟨s',K',q1,q2,q3,q4,q5,q6⟩:=e.append (⟨_,rfl⟩:Pre [] K) (ys:=rows2.flatten) (rows':=rows2) (bytes:=bytes) rfl hs.2 room
 exact ⟨s',K',q1,q2,q4,q5,q6⟩
theorem yeh {w:Bys} {kn:Kn}:decide ((0:Int)≤idxZ (idxN w kn))=(wn kn w).isSome:=by
 cases h:idxN w kn with
 | none=>rw [idxN_none.1 h];rfl
 | some k=>
  have:wn kn w≠none:=fun e=>by rw [idxN_none.2 e] at h;cases h
  cases hl:wn kn w with
  | none=>exact absurd hl this
  | some b=>simp [idxZ]
theorem zm1 (w:Bys):∀gs:List Gv,(wn (fk gs) w).isSome=(gs.map (·.name)).contains w
 | []=>rfl
 | g::gs=>by
  have:=zm1 w gs
  unfold fk at this ⊢
  rw [ypr,ypr,wn,List.contains_cons]
  cases h:w==g.name
  ·rw [if_neg (by simp),this];simp
  ·simp
theorem ygz {kn:Kn} {n i:Nat} {gs:List Gv} (hi:i<gs.length):bv kn (n+i) ((gs.take i).map (·.name)) (gs.drop i)=if (wn kn gs[i].name).isSome || ((gs.take i).map (·.name)).contains gs[i].name then .bad 42 gs[i].at_ else if 64≤n+i then .bad 2 gs[i].at_ else bv kn (n+(i+1)) ((gs.take (i+1)).map (·.name)) (gs.drop (i+1)):=by
 rw [ypo hi,bv,List.take_add_one,yow hi,Option.toList_some,yp8,List.map_singleton]
 rfl
structure LtS (h:Heap) (q mo:Nat) (ks:Value) (rc:Bool) (gs:List Gv) (row:List Value) (ls known L:Value) (i:Nat) (K:Heap) (gv rs:Value):Prop where
 row:K[h.length]?=some (.cells row 0 false)
 cq:K[q]?=some (.cells [ks,rs,.int .i64 0,.int .i64 0] 0 false)
 mo:K[mo]?=some (.cells [known,ls,L] 0 false)
 og:Own [] K gv 2 ((fk (gs.take i)).map zw)
 ors:Own [] K rs 1 ((if rc then (gs.take i).map (·.name) else []).map pd)
 gb:∀b,blk gv=some b→h.length<b
 rb:∀b,blk rs=some b→h.length<b
 gr:∀b,blk gv=some b→blk rs≠some b
 keep:∀b o,h[b]?=some o→b≠q→K[b]?=some o
 le:h.length<K.length
theorem ygy {h K:Heap} {q mo i:Nat} {ks ls known L gv rs:Value} {rc:Bool} {gs:List Gv} {row:List Value} (hq:q<h.length) (hmo:mo<h.length) (hqm:q≠mo) (e:LtS h q mo ks rc gs row ls known L i K gv rs) (hi:i<gs.length) (hl:gs.length≤8192) (x:AObj):
  ∃s' K2,wu (K++[x,.cells [str gs[i].name,.bool false] 0 false]) 2 24 gv (za5 (K++[x,.cells [str gs[i].name,.bool false] 0 false]) 2 (.slice (some ⟨K.length+1,0,some 0⟩) 1 2))=some (s',K2)∧K2[h.length]?=some (.cells row 0 false)∧
   K2[q]?=some (.cells [ks,rs,.int .i64 0,.int .i64 0] 0 false)∧(∀j,Heap.read1 K2 ⟨K.length,j,some 0⟩=Heap.read1 (K++[x]) ⟨K.length,j,some 0⟩)∧
   (rc=false→LtS h q mo ks rc gs row ls known L (i+1) K2 s' rs)∧
   (rc=true→∃r' K3,wu (K2++[.cells [str gs[i].name] 0 false]) 1 16 rs (za5 (K2++[.cells [str gs[i].name] 0 false]) 1 (.slice (some ⟨K2.length,0,some 0⟩) 1 1))=some (r',K3)∧K3[q]?=some (.cells [ks,rs,.int .i64 0,.int .i64 0] 0 false)∧
    LtS h q mo ks rc gs row ls known L (i+1) (K3.set q (.cells [ks,r',.int .i64 0,.int .i64 0] 0 false)) s' r'):=by
 obtain ⟨er,ec,em,og,ors,gb,rb,gr,keep,le⟩:=e
 have tk:gs.take (i+1)=gs.take i++[gs[i]]:=by rw [List.take_add_one,yow hi,Option.toList_some]
 obtain ⟨s',K2,q1,q2,_,q4,q5,q6⟩:=(og.more [x]).push (⟨_,rfl⟩:Pre [] _) (row:=[str gs[i].name,.bool false]) (bytes:=24) rfl (by rw [ypd,zbq,ypt];unfold wy;omega)
 simp only [yp4,List.singleton_append,yo8,List.length_singleton] at q1 q4 q6
 have old:∀z o,K[z]?=some o→blk gv≠some z→K2[z]?=some o:=fun z o ho n=>q5 z o (zm [x] ho) n
 have hgq:blk gv≠some q:=fun hh=>by have:=gb q hh;omega
 have hgm:blk gv≠some mo:=fun hh=>by have:=gb mo hh;omega
 have hgh:blk gv≠some h.length:=fun hh=>by have:=gb _ hh;omega
 have og2:Own [] K2 s' 2 ((fk (gs.take (i+1))).map zw):=by
  rw [tk];unfold fk at q2 ⊢;rw [yp8,yp8];exact q2
 have gb2:∀b,blk s'=some b→h.length<b:=fun b hb=>by
  rcases q6 with q6 | ⟨j,q6,q7⟩
  ·rw [q6] at hb;exact gb b hb
  ·rw [q6] at hb;cases hb;omega
 have hlast:blk gv≠some K.length:=fun hh=>by have:=(og.lt hh).2;omega
 have ors2:Own [] K2 rs 1 ((if rc then (gs.take i).map (·.name) else []).map pd):=ors.keep fun z hz o ho=>old z o ho fun hh=>gr z hh hz
 have gr2:∀b,blk s'=some b→blk rs≠some b:=fun b hb hr=>by
  rcases q6 with q6 | ⟨j,q6,q7⟩
  ·rw [q6] at hb;exact gr b hb hr
  ·rw [q6] at hb;cases hb;have:=(ors.lt hr).2;omega
 have kp2:∀b o,h[b]?=some o→b≠q→K2[b]?=some o:=fun b o ho n=>old b o (keep b o ho n) fun hh=>by have:=gb b hh;have:=(yoq.1 ho).1;omega
 have c2:=old _ _ ec hgq
 refine ⟨s',K2,q1,old _ _ er hgh,c2,fun j=> ?_,fun hrc=> ?_,fun hrc=> ?_⟩
 ·have:K2[K.length]?=some x:=q5 _ _ (by simp) hlast
  unfold Heap.read1
  simp only [this,ypn (yoz _),Nat.sub_self,List.getElem?_cons_zero]
 ·subst hrc
  exact ⟨old _ _ er hgh,c2,old _ _ em hgm,og2,ors2,gb2,rb,gr2,kp2,by omega⟩
 ·subst hrc
  obtain ⟨r',K3,r1,r2,_,r4,r5,r6⟩:=ors2.push (⟨_,rfl⟩:Pre [] _) (row:=[str gs[i].name]) (bytes:=16) rfl (by rw [if_pos rfl,ypd,ypd,ypt];unfold wy;omega)
  have hrq:blk rs≠some q:=fun hh=>by have:=rb q hh;omega
  have hrm:blk rs≠some mo:=fun hh=>by have:=rb mo hh;omega
  have hrh:blk rs≠some h.length:=fun hh=>by have:=rb _ hh;omega
  have c3:=r5 _ _ c2 hrq
  have rb3:∀b,blk r'=some b→h.length<b:=fun b hb=>by
   rcases r6 with r6 | ⟨j,r6,r7⟩
   ·rw [r6] at hb;exact rb b hb
   ·rw [r6] at hb;cases hb;omega
  have ne:∀b,h.length<b→b≠q:=fun b hb=>by omega
  refine ⟨r',K3,r1,c3,⟨?_,?_,?_,?_,?_,gb2,rb3,?_,?_,?_⟩⟩
  ·rw [you (by omega)];exact r5 _ _ (old _ _ er hgh) hrh
  ·rw [yox (yoq.1 c3).1]
  ·rw [you hqm];exact r5 _ _ (old _ _ em hgm) hrm
  ·exact og2.keep fun z hz o ho=>by rw [you (yps (ne z (gb2 z hz)))];exact r5 z o ho (gr2 z hz)
  ·have:(if true=true then (gs.take (i+1)).map (·.name) else []).map pd=(if true=true then (gs.take i).map (·.name) else []).map pd++[[str gs[i].name]]:=by
    rw [if_pos rfl,if_pos rfl,tk,yp8,yp8];rfl
   rw [this]
   exact r2.keep fun z hz o ho=>by rw [you (yps (ne z (rb3 z hz)))];exact ho
  ·intro b hb hr
   rcases r6 with r6 | ⟨j,r6,r7⟩
   ·rw [r6] at hr;exact gr2 b hb hr
   ·rw [r6] at hr;cases hr;have:=(og2.lt hb).2;omega
  ·intro b o ho n
   rw [you (yps n)]
   exact r5 b o (kp2 b o ho n) fun hh=>by have:=rb b hh;have:=(yoq.1 ho).1;omega
  ·rw [yo3];omega
theorem BsP.focus {h:Heap}:∀{S:Nat→Prop} {bs:List Nat} {gs:List Gv} {i:Nat} (hi:i<gs.length),BsP h S bs gs→∃b Si,bs[i]?=some b∧TreeA h Si b gs[i].e.pl gs[i].e∧(∀z,Si z→S z)∧
  ∀(h':Heap) (g':Gv),TreeA h' Si b g'.e.pl g'.e→(∀z o,S z→¬Si z→h[z]?=some o→h'[z]?=some o)→BsP h' S bs (gs.set i g')
 | S,[],[],i,hi,e=>by simp at hi
 | S,b::bs,g::gs,0,hi,e=>by
  obtain ⟨S1,S2,t,q,h1,h2⟩:=e
  exact ⟨b,S1,rfl,t,fun z hz=>(h1 z hz).1,fun h' g' t' keep=>⟨S1,S2,t',q.keep fun z o hz ho=>keep z o (h2 z hz) (fun h3=>(h1 z h3).2 hz) ho,h1,h2⟩⟩
 | S,b::bs,g::gs,i+1,hi,e=>by
  obtain ⟨S1,S2,t,q,h1,h2⟩:=e
  obtain ⟨c,Si,a,t2,s2,f⟩:=q.focus (i:=i) (by simpa using hi)
  exact ⟨c,Si,by simpa using a,by simpa using t2,fun z hz=>h2 z (s2 z hz),fun h' g' t' keep=>⟨S1,S2,t.keep fun z o hz ho=>keep z o (h1 z hz).1 (fun h3=>(h1 z hz).2 (s2 z h3)) ho,f h' g' t' fun z o hz hn ho=>keep z o (h2 z hz) hn ho,h1,h2⟩⟩
 | S,[],_::_,i,hi,e=>e.elim
 | S,_::_,[],i,hi,e=>e.elim
structure LxS (h:Heap) (q mo:Nat) (ks0 ks rs:Value) (kn1:Kn) (rc1:List Bys) (rc:Bool) (gs:List Gv) (bs:List Nat) (S:Nat→Prop) (row:List Value) (ls known L:Value) (i:Nat) (K:Heap) (gv:Value) (x a:Nat):Prop where
 row:K[h.length]?=some (.cells row 0 false)
 cq:K[q]?=some (.cells [ks,rs,.int .i64 (x:Int),.int .i64 (a:Int)] 0 false)
 oks:Own [] K ks 2 (kn1.map zw)
 ors:Own [] K rs 1 (rc1.map pd)
 mo:K[mo]?=some (.cells [known,ls,L] 0 false)
 ds:∃ds:Kn,ds.length=gs.length∧Own [] K gv 2 (ds.map zw)∧(x=0→∃l,l.length=i∧ds=x5 l++fk (gs.drop i)∧BsP K S bs (l++gs.drop i)∧zaf kn1 rc1 rc gs=(match zaf kn1 rc1 rc (gs.drop i) with | .bad c a=>.bad c a | .ok l2=>.ok (l++l2))∧l.map (fun g=>(g.name,g.at_))=(gs.take i).map fun g=>(g.name,g.at_))
 bad:x≠0→zaf kn1 rc1 rc gs=.bad x a
 keep:∀b o,h[b]?=some o→b≠q→¬S b→blk ks0≠some b→K[b]?=some o
 le:h.length<K.length
theorem yh8 {kn:Kn} {rc:List Bys} {b:Bool} {gs:List Gv} {i:Nat} (hi:i<gs.length):zaf kn rc b (gs.drop i)=(match chkE kn rc false gs[i].e with
  | .bad c a=>.bad c a
  | .ok x=>if b&&x.set then .bad 41 gs[i].e.pl else match zaf kn rc b (gs.drop (i+1)) with
   | .bad c a=>.bad c a
   | .ok l=>.ok (⟨gs[i].name,gs[i].at_,x⟩::l)):=by
 rw [ypo hi,zaf]
 rfl
theorem zw3 {h K:Heap} {q mo i:Nat} {ks0 ks rs ls known L gv:Value} {kn1:Kn} {rc1:List Bys} {rc:Bool} {gs:List Gv} {bs:List Nat} {S:Nat→Prop} {row:List Value} (hq:q<h.length) (hmo:mo<h.length) (hqm:q≠mo) (hk1:kn1.length<4611686018427387904) (hr1:rc1.length<4611686018427387904)
  (e:LxS h q mo ks0 ks rs kn1 rc1 rc gs bs S row ls known L i K gv 0 0) (hi:i<gs.length) (cl:Cc q ks rs S) (nSm:¬S mo) (hS:∀z,S z→z<h.length) (gb:∀b,blk gv=some b→h.length<b) (gk:∀b,blk gv=some b→blk ks≠some b∧blk rs≠some b) (km:blk ks≠some mo):
  ∃b K1 c ver K2 t,bs[i]?=some b∧DF FF zn [pt q,pt b,.bool false] K=some (tup [],K1)∧K1[h.length]?=some (.cells row 0 false)∧Heap.read1 K1 ⟨b,6,some 0⟩=some (.bool t)∧(∀z o,K[z]?=some o→¬S z→z≠q→K1[z]?=some o)∧(∀z o,K1[z]?=some o→blk gv≠some z→K2[z]?=some o)∧
   (∀H,rowO H 2 gv (.int .i64 (i:Int))=some (.pointer (some ⟨c,i*2,some ver⟩),H))∧Heap.write1 K1 ⟨c,i*2+1,some ver⟩ (.bool t)=some K2∧Heap.read1 K2 ⟨c,i*2+1,some ver⟩=some (.bool t)∧K2[h.length]?=some (.cells row 0 false)∧
   ((∃x a:Nat,x≠0∧K2[q]?=some (.cells [ks,rs,.int .i64 (x:Int),.int .i64 (a:Int)] 0 false)∧LxS h q mo ks0 ks rs kn1 rc1 rc gs bs S row ls known L (i+1) K2 gv x a)∨
    (∃k w o l r s,K2[b]?=some (.cells (xe k w gs[i].e.pl o l r s) 0 false))∧Ca K2 q ks rs kn1 rc1 0 0∧((rc&&t)=false→LxS h q mo ks0 ks rs kn1 rc1 rc gs bs S row ls known L (i+1) K2 gv 0 0)∧
    ((rc&&t)=true→LxS h q mo ks0 ks rs kn1 rc1 rc gs bs S row ls known L (i+1) (K2.set q (.cells [ks,rs,.int .i64 41,.int .i64 (gs[i].e.pl:Int)] 0 false)) gv 41 gs[i].e.pl)):=by
 obtain ⟨er,cq,oks,ors,em,⟨ds,dl,og,hx⟩,_,keep,le⟩:=e
 have ca:Ca K q ks rs kn1 rc1 0 0:=⟨cq,oks.sl,ors.sl⟩
 obtain ⟨l,ll,rfl,bp,hch,hnm⟩:=hx rfl
 have hil:i<(l++gs.drop i).length:=by simp;omega
 have hgi:(l++gs.drop i)[i]=gs[i]:=by
  rw [List.getElem_append_right (by omega)]
  simp [ll]
 obtain ⟨b,Si,hb,t,hsi,foc⟩:=bp.focus hil
 rw [hgi] at t
 have cli:Cc q ks rs Si:=cl.weak hsi
 obtain ⟨K1,q1,R,k1⟩:=zji kn1 rc1 hk1 hr1 gs[i].e false K q b gs[i].e.pl ks rs Si ca t cli
 have nS:∀z,h.length≤z→¬Si z:=fun z hz hh=>by have:=hS z (hsi z hh);omega
 have er1:=k1.keep _ _ er (nS _ (yoz _)) (by omega)
 have em1:=k1.keep _ _ em (fun hh=>nSm (hsi _ hh)) (yps hqm)
 have og1:Own [] K1 gv 2 ((x5 l++fk (gs.drop i)).map zw):=og.keep fun z hz o ho=>k1.keep z o ho (nS z (by have:=gb z hz;omega)) (by have:=gb z hz;omega)
 have hid:i<(x5 l++fk (gs.drop i)).length:=by rw [dl];exact hi
 obtain ⟨tt,k',w,o,x,y,hn⟩:∃tt k' w o x y,K1[b]?=some (.cells (xe k' w gs[i].e.pl o x y tt) 0 false):=by
  cases hc:chkE kn1 rc1 false gs[i].e with
  | bad c a=>
   rw [hc] at R
   obtain ⟨_,⟨e',te,_⟩,_⟩:=R
   obtain ⟨k',w,o,x,y,_,hn⟩:=te.root
   exact ⟨_,_,_,_,_,_,hn⟩
  | ok e'=>
   rw [hc] at R
   obtain ⟨te,_,_⟩:=R
   obtain ⟨k',w,o,x,y,_,hn⟩:=te.root
   exact ⟨_,_,_,_,_,_,hn⟩
 obtain ⟨c,ver,K2,w1,w2,w3,og2,hbl,hlen,kp2⟩:=og1.putD hid tt
 have hcl:=gb c hbl
 have er2:=kp2 _ _ (by omega) er1
 have em2:=kp2 _ _ (by omega) em1
 have bh:b<h.length:=by
  obtain ⟨_,_,_,_,_,hbS,_⟩:=t.root
  exact hS b (hsi b hbS)
 have hn2:=kp2 _ _ (by omega) hn
 have ca2:∀x a,Ca K1 q ks rs kn1 rc1 x a→Ca K2 q ks rs kn1 rc1 x a:=fun x a c1=>
  ⟨kp2 _ _ (by omega) c1.cq,c1.ck.keep fun z hz o ho=>kp2 z o (fun hh=>(gk c hbl).1 (hh▸hz)) ho,c1.cr.keep fun z hz o ho=>kp2 z o (fun hh=>(gk c hbl).2 (hh▸hz)) ho⟩
 have oks2:Own [] K2 ks 2 (kn1.map zw):=oks.keep fun z hz o ho=>kp2 z o (fun hh=>(gk c hbl).1 (hh▸hz)) (k1.keep z o ho (cli.k z hz).1 (cli.k z hz).2)
 have ors2:Own [] K2 rs 1 (rc1.map pd):=ors.keep fun z hz o ho=>kp2 z o (fun hh=>(gk c hbl).2 (hh▸hz)) (k1.keep z o ho (cli.r z hz).1 (cli.r z hz).2)
 have keep2:∀z o,h[z]?=some o→z≠q→¬S z→blk ks0≠some z→K2[z]?=some o:=fun z o ho n1 n2 n3=>by
  have hz:=(yoq.1 ho).1
  exact kp2 z o (by omega) (k1.keep z o (keep z o ho n1 n2 n3) (fun hh=>n2 (hsi z hh)) n1)
 have le2:h.length<K2.length:=by rw [hlen,k1.len];exact le
 have dl2:((x5 l++fk (gs.drop i)).set i ((x5 l++fk (gs.drop i))[i].1,tt)).length=gs.length:=by rw [yo3];exact dl
 rw [yh8 hi] at hch
 refine ⟨b,K1,c,ver,K2,tt,hb,q1,er1,zr hn,fun z o ho n1 n2=>k1.keep z o ho (fun hh=>n1 (hsi z hh)) n2,fun z o ho n=>kp2 z o (fun hh=>n (hh▸hbl)) ho,w1,w2,w3,er2,?_⟩
 cases hc:chkE kn1 rc1 false gs[i].e with
 | bad x a=>
  rw [hc] at R hch
  obtain ⟨h0,_,c1⟩:=R
  exact .inl ⟨x,a,h0,(ca2 x a c1).cq,er2,(ca2 x a c1).cq,oks2,ors2,em2,⟨_,dl2,og2,fun h=>absurd h h0⟩,fun _=>hch,keep2,le2⟩
 | ok e'=>
  rw [hc] at R hch
  obtain ⟨te,pl,c1⟩:=R
  have htt:tt=e'.set:=by
   obtain ⟨_,_,_,_,_,_,hn'⟩:=te.root
   have:=hn.symm.trans hn'
   have fl:=(zdb hc).2
   simp only [yot,AObj.cells.injEq,and_true] at this
   have h6:=congrArg (fun r=>r[6]?) this
   simp only [wx,yot,Value.bool.injEq] at h6
   rw [h6,fl]
  subst htt
  have tree2:TreeA K2 Si b e'.pl e':=by
   rw [pl]
   exact te.keep fun z o hz ho=>kp2 z o (by have:=hS z (hsi z hz);omega) ho
  have dset:(x5 l++fk (gs.drop i)).set i ((x5 l++fk (gs.drop i))[i].1,e'.set)=x5 (l++[⟨gs[i].name,gs[i].at_,e'⟩])++fk (gs.drop (i+1)):=by
   have ls:(x5 l).length=i:=by simp [x5,ll]
   have hd:fk (gs.drop i)=(gs[i].name,false)::fk (gs.drop (i+1)):=by rw [ypo hi];rfl
   have hn1:(x5 l++fk (gs.drop i))[i].1=gs[i].name:=by
    rw [List.getElem_append_right (by omega)]
    simp [ls,fk]
   rw [hn1,List.set_append_right _ _ (by omega),ls,Nat.sub_self,hd,List.set_cons_zero]
   simp [x5]
  have lset:(l++gs.drop i).set i ⟨gs[i].name,gs[i].at_,e'⟩=(l++[⟨gs[i].name,gs[i].at_,e'⟩])++gs.drop (i+1):=by
   rw [List.set_append_right _ _ (by omega),ll,Nat.sub_self,ypo hi,List.set_cons_zero]
   simp
  have bp2:BsP K2 S bs ((l++[⟨gs[i].name,gs[i].at_,e'⟩])++gs.drop (i+1)):=by
   rw [←lset]
   exact foc K2 _ tree2 fun z o hz hn ho=>kp2 z o (by have:=hS z hz;omega) (k1.keep z o ho hn (fun hh=>cl.nq (hh▸hz)))
  have nm2:(l++[(⟨gs[i].name,gs[i].at_,e'⟩:Gv)]).map (fun g=>(g.name,g.at_))=(gs.take (i+1)).map fun g=>(g.name,g.at_):=by
   rw [yp8,hnm,List.take_add_one,yow hi,Option.toList_some,yp8];rfl
  refine .inr ⟨⟨_,_,_,_,_,_,hn2⟩,ca2 0 0 c1,fun hf=> ?_,fun hf=> ?_⟩
  ·simp only [hf,yoy,if_false] at hch
   refine ⟨er2,(ca2 0 0 c1).cq,oks2,ors2,em2,⟨_,dl2,og2,fun _=>⟨_,by simp [ll],dset,bp2,?_,nm2⟩⟩,fun h=>absurd rfl h,keep2,le2⟩
   rw [hch]
   cases zaf kn1 rc1 rc (gs.drop (i+1)) with
   | bad c a=>rfl
   | ok l2=>simp
  ·simp only [hf,if_true] at hch
   have hq2:=(yoq.1 (ca2 0 0 c1).cq).1
   have ne:∀z,z≠q→∀o,K2[z]?=some o→(K2.set q (.cells [ks,rs,.int .i64 41,.int .i64 (gs[i].e.pl:Int)] 0 false))[z]?=some o:=fun z hz o ho=>by rw [you (yps hz)];exact ho
   refine ⟨ne _ (by omega) _ er2,by rw [yox hq2];rfl,oks2.keep fun z hz o ho=>ne z (cl.k z hz).2 o ho,ors2.keep fun z hz o ho=>ne z (cl.r z hz).2 o ho,ne _ (yps hqm) _ em2,⟨_,dl2,og2.keep fun z hz o ho=>ne z (by have:=gb z hz;omega) o ho,fun h=>absurd h (by omega)⟩,fun _=>hch,fun z o ho n1 n2 n3=>ne z n1 o (keep2 z o ho n1 n2 n3),by rw [yo3];exact le2⟩
end Go.Proofs.YtljdbheclfaloaaGreatDoor.AM
