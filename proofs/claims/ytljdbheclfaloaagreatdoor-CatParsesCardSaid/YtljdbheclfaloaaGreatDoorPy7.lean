/-
  Part 7.
  Conditions: as each says.
-/
import Derived.Test.YtljdbheclfaloaaGreatDoorPy6
import Derived.WideShapes
import Derived.LaidMore
import Derived.LaidLaws
import Derived.HandedShaped
import Derived.Shelf.Vars
open List renaming getElem?_eq_some_iff→yoq,getElem?_set_ne→you,getElem?_eq_getElem→yow,getElem?_set_self→yox,length_set→yo3,drop_eq_nil_of_le→yo5,length_append→yo8,length_map→ypd,mem_append→ype,length_drop→ypf,eq_nil_of_length_eq_zero→ypj,append_nil→ypl,drop_eq_getElem_cons→ypo,take_length→ypq,map_cons→ypr,length_take→ypt,mem_cons→ypx,getElem?_take→yp0,append_assoc→yp4,drop_length→yp5,map_append→yp8
open Nat renaming reduceAdd→yor,reduceSub→yos,le_refl→yoz,add_zero→yqe
open Option.some renaming injEq→yot,inj→yqc
open Int renaming cast_ofNat_Int→yov,reduceBNe→yo7
open Bool renaming false_eq_true→yoy,bne_true→yo4,bne_false→ypa,true_and→yp2,true_or→yqg
open Prod.mk renaming injEq→yo2
open Option renaming bind_eq_some_iff→yo6,map_eq_some_iff→ypm
open Ne renaming symm→yps
namespace Go.Proofs.YtljdbheclfaloaaGreatDoor.AM
open Go.RowKit
set_option linter.unusedSimpArgs false
set_option linter.unusedVariables false
set_option maxRecDepth 20000
theorem yda (g:Gv) (b:Nat):(gvA g b)[0]?=some (str g.name):=rfl
theorem yk2 (g:Gv) (b:Nat):(gvA g b)[1]?=some (.int .i64 (g.at_:Int)):=rfl
theorem zog (g:Gv) (b:Nat):(gvA g b).length=3:=by simp [gvA]
theorem yav (a b c d:Value):yp [a,b] [(0,2,agg [c,d])]=some [c,d]:=by
 rw [yp,zg];simp [splice,yp]
def LtR (h:Heap) (q mo:Nat) (ks known ls L:Value) (kn lt:Kn) (rc:Bool) (gs:List Gv) (bs:List Nat) (S:Nat→Prop) (h':Heap):CR Stm→Prop
 | .bad c a=>c≠0∧(∃v1 v2,h'[q]?=some (.cells [v1,v2,.int .i64 (c:Int),.int .i64 (a:Int)] 0 false))∧(∃v3,h'[mo]?=some (.cells [known,v3,L] 0 false))∧(∀z o,h[z]?=some o→z≠q→z≠mo→¬S z→blk ks≠some z→blk ls≠some z→h'[z]?=some o)∧h.length≤h'.length
 | .ok s'=>∃ks' ls' l,s'=.lets rc l∧h'[q]?=some (.cells [ks',.slice none 0 0,.int .i64 0,.int .i64 0] 0 false)∧Own [] h' ks' 2 ((kn++x5 l).map zw)∧h'[mo]?=some (.cells [known,ls',L] 0 false)∧Own [] h' ls' 2 ((lt++x5 l).map zw)∧BsP h' S bs l∧
   l.map (fun g=>(g.name,g.at_))=gs.map (fun g=>(g.name,g.at_))∧(∀b,blk ks'=some b→blk ks=some b∨h.length≤b)∧(∀b,blk ls'=some b→blk ls=some b∨h.length≤b)∧(∀b,blk ks'=some b→blk ls'≠some b)∧
   (∀z o,h[z]?=some o→z≠q→z≠mo→¬S z→blk ks≠some z→blk ls≠some z→h'[z]?=some o)∧h.length≤h'.length
structure LtD (h:Heap) (q mo:Nat) (ks ls s:Value) (S:Nat→Prop):Prop where
 hq:q<h.length
 hm:mo<h.length
 qm:q≠mo
 kq:blk ks≠some q
 km:blk ks≠some mo
 lq:blk ls≠some q
 lm:blk ls≠some mo
 kl:∀b,blk ks=some b→blk ls≠some b
 sq:blk s≠some q
 sm:blk s≠some mo
 sk:∀b,blk s=some b→blk ks≠some b
 sl:∀b,blk s=some b→blk ls≠some b
 S:∀z,S z→z<h.length∧z≠q∧z≠mo∧blk ks≠some z∧blk ls≠some z∧blk s≠some z
theorem yip {K:Heap} {q mo x a:Nat} {kk rs ls known L gv:Value} {ds lt:Kn} (cq:K[q]?=some (.cells [kk,rs,.int .i64 (x:Int),.int .i64 (a:Int)] 0 false)) (cm:K[mo]?=some (.cells [known,ls,L] 0 false)) (ol:Own [] K ls 2 (lt.map zw)) (og:Own [] K gv 2 (ds.map zw)) (hqm:q≠mo) (nlq:blk ls≠some q) (nlm:blk ls≠some mo) (ngq:blk gv≠some q) (hd:ds.length≤8192) (hlt:lt.length≤10000):
  ∃E9 la lb lc K9 K10,E9=K.set q (.cells [kk,.slice none 0 0,.int .i64 (x:Int),.int .i64 (a:Int)] 0 false)∧Heap.write1 K ⟨q,1,some 0⟩ (.slice none 0 0)=some E9∧(∀j,Heap.read1 E9 ⟨mo,j,some 0⟩=([known,ls,L]:List Value)[j]?)∧wu E9 2 24 ls (za5 E9 2 gv)=some (.slice la lb lc,K9)∧Heap.write1 K9 ⟨mo,1,some 0⟩ (.slice la lb lc)=some K10∧
   K10[q]?=some (.cells [kk,.slice none 0 0,.int .i64 (x:Int),.int .i64 (a:Int)] 0 false)∧K10[mo]?=some (.cells [known,.slice la lb lc,L] 0 false)∧Own [] K10 (.slice la lb lc) 2 ((lt++ds).map zw)∧(∀b,blk (.slice la lb lc)=some b→blk ls=some b∨K.length≤b)∧
   (∀z o,K[z]?=some o→z≠q→z≠mo→blk ls≠some z→K10[z]?=some o)∧K.length≤K10.length:=by
 obtain ⟨E9,hE9⟩:∃E9,E9=K.set q (.cells [kk,.slice none 0 0,.int .i64 (x:Int),.int .i64 (a:Int)] 0 false):=⟨_,rfl⟩
 have hq:=(yoq.1 cq).1
 have hm:=(yoq.1 cm).1
 have l9:E9.length=K.length:=by rw [hE9];simp
 have ne:∀z,z≠q→E9[z]?=K[z]?:=fun z hz=>by rw [hE9,you (yps hz)]
 have ol9:Own [] E9 ls 2 (lt.map zw):=ol.keep fun z hz o ho=>by rw [ne z (fun hh=>nlq (hh▸hz))];exact ho
 have og9:Own [] E9 gv 2 (ds.map zw):=og.keep fun z hz o ho=>by rw [ne z (fun hh=>ngq (hh▸hz))];exact ho
 obtain ⟨ls',K9,m1,m2,m3,m4,m5⟩:=ol9.more_rows (bytes:=24) og9.sl (by rw [ypd,ypd];unfold wy;omega)
 obtain ⟨la,lb,lc,rfl⟩:=m2.slice
 have cm9:=m4 _ _ (by rw [ne mo (yps hqm)];exact cm) nlm
 have cq9:=m4 q _ (by rw [hE9,yox hq]) nlq
 have hb:∀b,blk (.slice la lb lc)=some b→blk ls=some b∨K.length≤b:=fun b hb=>by
  rcases m5 with m5 | ⟨j,m5,m6⟩
  ·rw [m5] at hb;exact .inl hb
  ·rw [m5] at hb;cases hb;exact .inr (by omega)
 have nm:blk (.slice la lb lc)≠some mo:=fun hh=>by
  rcases hb mo hh with h1 | h1
  ·exact nlm h1
  ·omega
 refine ⟨E9,la,lb,lc,K9,K9.set mo (.cells [known,.slice la lb lc,L] 0 false),hE9,by rw [hE9,jo cq (by simp)];rfl,fun j=>zr (by rw [ne mo (yps hqm)];exact cm),m1,by rw [jo cm9 (by simp)];rfl,by rw [you (yps hqm)];exact cq9,by rw [yox (yoq.1 cm9).1],?_,hb,fun z o ho n1 n2 n3=>by rw [you (yps n2)];exact m4 z o (by rw [ne z n1];exact ho) n3,by rw [yo3];omega⟩
 rw [yp8]
 exact m2.keep fun z hz o ho=>by rw [you (fun hh=>nm (by rw [hh];exact hz))];exact ho
theorem yil {h K:Heap} {q mo x a:Nat} {ks v1 known ls ls' L:Value} {lt ds:Kn} (cq:h[q]?=some (.cells [ks,.slice none 0 0,.int .i64 0,.int .i64 0] 0 false)) (cm:h[mo]?=some (.cells [known,ls,L] 0 false)) (ol:Own [] h ls 2 (lt.map zw)) (kq:K[q]?=some (.cells [v1,.slice none 0 0,.int .i64 (x:Int),.int .i64 (a:Int)] 0 false)) (km:K[mo]?=some (.cells [known,ls',L] 0 false)) (ol':Own [] K ls' 2 ((lt++ds).map zw)) (hd:ds.length≠0):AM.finish h (tup []) K=K:=by
 rcases j5 h K (tup []) with hf | ⟨hf,hk⟩
 ·exact hf
 ·exfalso
  have:K[mo]?=h[mo]?:=by rw [←hk,yp0,if_pos (yoq.1 cm).1]
  rw [km,cm] at this
  simp only [yot,AObj.cells.injEq,List.cons.injEq,and_true,true_and] at this
  have e1:=ol.len h
  have e2:=ol'.len h
  rw [this,e1] at e2
  simp at e2
  omega
def Lw1 (h:Heap) (q mo:Nat) (ks:Value) (kn lt:Kn) (rc:Bool) (gs:List Gv) (row:List Value) (ls known L:Value) (k:Nat) (st:St):Prop:=∃K gv rs,(∃j:Nat→Value,st=⟨[pt q,pt mo,j 2,j 3,j 4,pt h.length,gv,.int .i64 (k:Int),j 8,
 j 9,j 10,j 11,j 12,j 13,j 14,j 15,j 16,j 17,j 18,j 19,j 20,j 21,j 22,j 23,j 24,j 25,j 26,j 27,j 28,j 29,j 30,j 31,j 32,j 33,j 34,j 35,j 36,j 37,j 38,j 39,j 40,j 41,j 42,j 43,j 44,j 45,j 46,j 47,j 48,j 49,j 50,j 51,j 52,
 j 53,j 54,j 55,j 56,j 57,j 58,j 59,j 60,j 61,j 62,j 63,j 64,j 65,j 66,j 67,j 68,j 69,j 70,j 71,j 72,j 73,j 74,j 75,j 76,j 77,j 78,j 79,j 80,j 81,j 82,j 83,j 84,j 85,j 86,j 87,j 88,j 89,j 90,j 91,j 92,j 93,j 94,j 95,j 96,
 j 97,j 98,j 99,j 100,j 101,j 102,j 103,j 104,j 105,j 106,j 107,j 108,j 109,j 110,j 111,j 112,j 113,j 114,j 115,j 116,j 117,j 118,j 119,j 120,j 121,j 122,j 123,j 124,j 125,j 126,j 127,j 128,j 129,j 130,j 131,j 132,j 133,
 j 134,j 135,j 136,j 137,j 138,j 139,j 140,j 141,j 142,j 143,j 144,j 145,j 146,j 147,j 148,j 149,j 150,j 151,j 152,j 153,j 154,j 155,j 156,j 157,j 158,j 159,j 160,j 161,j 162,j 163,j 164,j 165,j 166,j 167,j 168,j 169,
 j 170,j 171,j 172,j 173,j 174,j 175,j 176],K⟩)∧LtS h q mo ks rc gs row ls known L k K gv rs∧bv kn lt.length [] gs=bv kn (lt.length+k) ((gs.take k).map (·.name)) (gs.drop k)
def Lw2 (h:Heap) (q mo:Nat) (ks0 ks rs:Value) (kn1:Kn) (rc1:List Bys) (rc:Bool) (gs:List Gv) (bs:List Nat) (S:Nat→Prop) (row:List Value) (ls known L gv:Value) (k:Nat) (st:St):Prop:=∃K x a,(∃j:Nat→Value,st=⟨[pt q,pt mo,
 j 2,j 3,j 4,pt h.length,gv,j 7,j 8,.int .i64 (k:Int),j 10,j 11,j 12,j 13,j 14,j 15,j 16,j 17,j 18,j 19,j 20,j 21,j 22,j 23,j 24,j 25,j 26,j 27,j 28,j 29,j 30,j 31,j 32,j 33,j 34,j 35,j 36,j 37,j 38,j 39,j 40,j 41,j 42,
 j 43,j 44,j 45,j 46,j 47,j 48,j 49,j 50,j 51,j 52,j 53,j 54,j 55,j 56,j 57,j 58,j 59,j 60,j 61,j 62,j 63,j 64,j 65,j 66,j 67,j 68,j 69,j 70,j 71,j 72,j 73,j 74,j 75,j 76,j 77,j 78,j 79,j 80,j 81,j 82,j 83,j 84,j 85,j 86,
 j 87,j 88,j 89,j 90,j 91,j 92,j 93,j 94,j 95,j 96,j 97,j 98,j 99,j 100,j 101,j 102,j 103,j 104,j 105,j 106,j 107,j 108,j 109,j 110,j 111,j 112,j 113,j 114,j 115,j 116,j 117,j 118,j 119,j 120,j 121,j 122,j 123,j 124,
 j 125,j 126,j 127,j 128,j 129,j 130,j 131,j 132,j 133,j 134,j 135,j 136,j 137,j 138,j 139,j 140,j 141,j 142,j 143,j 144,j 145,j 146,j 147,j 148,j 149,j 150,j 151,j 152,j 153,j 154,j 155,j 156,j 157,j 158,j 159,j 160,
 j 161,j 162,j 163,j 164,j 165,j 166,j 167,j 168,j 169,j 170,j 171,j 172,j 173,j 174,j 175,j 176],K⟩)∧LxS h q mo ks0 ks rs kn1 rc1 rc gs bs S row ls known L k K gv x a∧(x=0→a=0)
def Lp2 (h:Heap) (q mo:Nat) (ks0 ks rs:Value) (kn1:Kn) (rc1:List Bys) (rc:Bool) (gs:List Gv) (bs:List Nat) (S:Nat→Prop) (row:List Value) (ls known L gv:Value) (st:St):Prop:=∃K i x a,(∃j:Nat→Value,st=⟨[pt q,pt mo,j 2,j 3,
 j 4,pt h.length,gv,j 7,j 8,j 9,j 10,j 11,j 12,j 13,j 14,j 15,j 16,j 17,j 18,j 19,j 20,j 21,j 22,j 23,j 24,j 25,j 26,j 27,j 28,j 29,j 30,j 31,j 32,j 33,j 34,j 35,j 36,j 37,j 38,j 39,j 40,j 41,j 42,j 43,j 44,j 45,j 46,
 j 47,j 48,j 49,j 50,j 51,j 52,j 53,j 54,j 55,j 56,j 57,j 58,j 59,j 60,j 61,j 62,j 63,j 64,j 65,j 66,j 67,j 68,j 69,j 70,j 71,j 72,j 73,j 74,j 75,j 76,j 77,j 78,j 79,j 80,j 81,j 82,j 83,j 84,j 85,j 86,j 87,j 88,j 89,j 90,
 j 91,j 92,j 93,j 94,j 95,j 96,j 97,j 98,j 99,j 100,j 101,j 102,j 103,j 104,j 105,j 106,j 107,j 108,j 109,j 110,j 111,j 112,j 113,j 114,j 115,j 116,j 117,j 118,j 119,j 120,j 121,j 122,j 123,j 124,j 125,j 126,j 127,j 128,
 j 129,j 130,j 131,j 132,j 133,j 134,j 135,j 136,j 137,j 138,j 139,j 140,j 141,j 142,j 143,j 144,j 145,j 146,j 147,j 148,j 149,j 150,j 151,j 152,j 153,j 154,j 155,j 156,j 157,j 158,j 159,j 160,j 161,j 162,j 163,j 164,
 j 165,j 166,j 167,j 168,j 169,j 170,j 171,j 172,j 173,j 174,j 175,j 176],K⟩)∧LxS h q mo ks0 ks rs kn1 rc1 rc gs bs S row ls known L i K gv x a∧(x=0→a=0∧i=gs.length)
set_option maxHeartbeats 16000000 in
theorem yk7 {h:Heap} {q mo:Nat} {ks known ls L s:Value} {kn lt:Kn} {rc:Bool} {gs:List Gv} {bs:List Nat} {S:Nat→Prop} (cq:h[q]?=some (.cells [ks,.slice none 0 0,.int .i64 0,.int .i64 0] 0 false)) (ok:Own [] h ks 2 (kn.map zw)) (cm:h[mo]?=some (.cells [known,ls,L] 0 false)) (ol:Own [] h ls 2 (lt.map zw))
  (hs:Sl h s 3 (List.zipWith gvA gs bs)) (bp:BsP h S bs gs) (hkn:kn.length≤20000) (hlt:lt.length≤10000) (hgs:gs.length≤8192) (hne:gs≠[]) (D:LtD h q mo ks ls s S):
  ∃h',DF FF vc [pt q,pt mo,agg [s,.bool rc,str [],str [],nilP]] h=some (tup [],h')∧LtR h q mo ks known ls L kn lt rc gs bs S h' (chkS kn lt.length (.lets rc gs)):=by
 have:∃v h',DF FF vc [pt q,pt mo,agg [s,.bool rc,str [],str [],nilP]] h=some (v,h')∧(v=tup []∧LtR h q mo ks known ls L kn lt rc gs bs S h' (chkS kn lt.length (.lets rc gs))):=by
  refine yb zd9 ?_
  obtain ⟨row,hrow⟩:∃row:List Value,row=[s,.bool rc,str [],str [],nilP]:=⟨_,rfl⟩
  have hrl:row.length=5:=by rw [hrow];rfl
  have lb:=bp.len
  have lz:(List.zipWith gvA gs bs).length=gs.length:=zxg lb
  have lens:∀H,lenO H s=some (.int .i64 (gs.length:Int),H):=fun H=>by rw [hs.len,lz]
  have lenl:∀H,lenO H ls=some (.int .i64 (lt.length:Int),H):=fun H=>by rw [ol.len,ypd]
  have failed:∀(K:Heap) (v1 v2:Value) (c a:Nat),c≠0→K[q]?=some (.cells [v1,v2,.int .i64 (c:Int),.int .i64 (a:Int)] 0 false)→AM.finish h (tup []) K=K:=fun K v1 v2 c a hc hK=>by
   rcases j5 h K (tup []) with hf | ⟨hf,hk⟩
   ·exact hf
   ·exfalso
    have:K[q]?=h[q]?:=by rw [←hk,yp0,if_pos D.hq]
    rw [hK,cq] at this
    simp at this
    omega
  have e0:LtS h q mo ks rc gs row ls known L 0 (h++[.cells row 0 false]) (.slice none 0 0) (.slice none 0 0):=
   ⟨by simp,zm _ cq,zm _ cm,Own.nil _ _ _,by rw [List.take_zero,List.map_nil,ite_self];exact Own.nil _ _ _,by intro b hb;simp [blk] at hb,by intro b hb;simp [blk] at hb,by intro b hb;simp [blk] at hb,fun b o ho _=>zm _ ho,by simp⟩
  have hr0:([s,.bool rc,str [],str [],nilP]:List Value)=row:=hrow.symm
  simp only [zae,yor,yos,zg,ze,zf,hr0,zg,ze,hrl,pkA,pkB]
  refine gg gs.length (Lw1 h q mo ks kn lt rc gs row ls known L) ?_ ?_ _ ⟨_,_,_,junk rfl,e0,by simp⟩
  ·rintro k st hk ⟨K,gv,rs,⟨j,rfl⟩,e,hf⟩
   have rr:∀L j,Heap.read1 (K++L) ⟨h.length,j,some 0⟩=([s,.bool rc,str [],str [],nilP]:List Value)[j]?:=fun L j=>by rw [zr (zm L e.row),hrow]
   have rr0:∀j,Heap.read1 K ⟨h.length,j,some 0⟩=([s,.bool rc,str [],str [],nilP]:List Value)[j]?:=fun j=>by rw [zr e.row,hrow]
   have rq:∀L j,Heap.read1 (K++L) ⟨q,j,some 0⟩=([ks,rs,.int .i64 0,.int .i64 0]:List Value)[j]?:=fun L j=>zr (zm L e.cq)
   have rq0:∀j,Heap.read1 K ⟨q,j,some 0⟩=([ks,rs,.int .i64 0,.int .i64 0]:List Value)[j]?:=fun j=>zr e.cq
   have rm:∀L' j,Heap.read1 (K++L') ⟨mo,j,some 0⟩=([known,ls,L]:List Value)[j]?:=fun L' j=>zr (zm L' e.mo)
   have c1:((k:Int)<(gs.length:Int))=True:=by simp;omega
   have hs':Sl K s 3 (List.zipWith gvA gs bs):=hs.keep fun b hb o ho=>e.keep b o ho fun hh=>D.sq (hh▸hb)
   have ok':Sl K ks 2 (kn.map zw):=ok.sl.keep fun b hb o ho=>e.keep b o ho fun hh=>D.kq (hh▸hb)
   obtain ⟨bb,o,v,a1,a2⟩:=hs'.atH (k:=k) (by rw [lz];exact hk)
   have hkb:k<bs.length:=by rw [lb];exact hk
   have hz:(List.zipWith gvA gs bs)[k]'(by rw [lz];exact hk)=gvA gs[k] bs[k]:=by rw [List.getElem_zipWith]
   rw [hz] at a2
   obtain ⟨x,hx⟩:∃x,x=AObj.cells (gvA gs[k] bs[k]) 0 false:=⟨_,rfl⟩
   have rx:∀j,Heap.read1 (K++[x]) ⟨K.length,j,some 0⟩=(gvA gs[k] bs[k])[j]?:=fun j=>zr (by rw [hx];simp)
   have f1:=zyj (h:=K++[x]) gs[k].name (ok'.more _) (by omega)
   have f2:=zyj (h:=K++[x]) gs[k].name (e.og.sl.more _) (by rw [zbq,ypt];omega)
   have i1:=yeh (w:=gs[k].name) (kn:=kn)
   have i2:=yeh (w:=gs[k].name) (kn:=fk (gs.take k))
   rw [zm1] at i2
   rw [ygz hk] at hf
   have cS:chkS kn lt.length (.lets rc gs)=(match bv kn lt.length [] gs with | .bad c a=>.bad c a | .ok _=>match zaf (if rc then kn++gs.map fun g=>(g.name,false) else kn) (if rc then gs.map (·.name) else []) rc gs with | .bad c a=>.bad c a | .ok l=>.ok (.lets rc l)):=rfl
   have ff:=fun c p=>zaq (h:=K++[x]) (a:=0) (zm [x] e.cq) c p
   have f42:=ff 42 gs[k].at_
   have f64:=ff 2 gs[k].at_
   simp only [yov] at f42 f64
   have hlq:q<(K++[x]).length:=(yoq.1 (zm [x] e.cq)).1
   have done:∀(c a:Nat),c≠0→chkS kn lt.length (.lets rc gs)=.bad c a→(tup []=tup [])∧LtR h q mo ks known ls L kn lt rc gs bs S (AM.finish h (tup []) ((K++[x]).set q (.cells [ks,rs,.int .i64 (c:Int),.int .i64 (a:Int)] 0 false))) (chkS kn lt.length (.lets rc gs)):=fun c a hc hR=>by
    have hq':((K++[x]).set q (.cells [ks,rs,.int .i64 (c:Int),.int .i64 (a:Int)] 0 false))[q]?=some (.cells [ks,rs,.int .i64 (c:Int),.int .i64 (a:Int)] 0 false):=yox hlq
    rw [failed _ _ _ c a hc hq',hR]
    exact ⟨rfl,hc,⟨_,_,hq'⟩,⟨ls,by rw [you D.qm];exact zm [x] e.mo⟩,fun z o ho n1 _ _ _ _=>by rw [you (yps n1)];exact zm [x] (e.keep z o ho n1),by have:=e.le;simp;omega⟩
   cases b1:(wn kn gs[k].name).isSome
   ·cases b2:((gs.take k).map (·.name)).contains gs[k].name
    ·rw [b1] at i1;rw [b2] at i2
     rw [b1,b2] at hf
     simp only [Bool.or_self,yoy,if_false] at hf
     by_cases h64:64≤lt.length+k
     ·rw [if_pos h64] at hf
      have c64:((64:Int)≤((lt.length+k:Nat):Int))=True:=by simp;omega
      have lg:∀H,lenO H gv=some (.int .i64 (k:Int),H):=fun H=>by rw [e.og.len,ypd,zbq,ypt,Nat.min_eq_left (by omega)]
      simp only [zi,zb,yor,wt,rr0,rq,rq0,rm,lens,lenl,lg,c1,a1,a2,←hx,zog,rx,yda,yk2,f1,f2,i1,i2,zd4 (a:=lt.length) (b:=k) (by omega),c64,f64,kv,pkA,pkB]
      have:=done 2 gs[k].at_ (by omega) (by rw [cS,hf])
      simp only [yov] at this
      exact this
     ·rw [if_neg h64] at hf
      have c64:((64:Int)≤((lt.length+k:Nat):Int))=False:=by simp;omega
      have lg:∀H,lenO H gv=some (.int .i64 (k:Int),H):=fun H=>by rw [e.og.len,ypd,zbq,ypt,Nat.min_eq_left (by omega)]
      obtain ⟨s',K2,r1,r2,r3,r4,r5,r6⟩:=ygy D.hq D.hm D.qm e hk hgs x
      have rx2:∀j,Heap.read1 K2 ⟨K.length,j,some 0⟩=(gvA gs[k] bs[k])[j]?:=fun j=>by rw [r4,rx]
      have rr2:∀j,Heap.read1 K2 ⟨h.length,j,some 0⟩=([s,.bool rc,str [],str [],nilP]:List Value)[j]?:=fun j=>by rw [zr r2,hrow]
      have rq2:∀j,Heap.read1 K2 ⟨q,j,some 0⟩=([ks,rs,.int .i64 0,.int .i64 0]:List Value)[j]?:=fun j=>zr r3
      cases rc
      ·simp only [zi,zb,yor,slc,zc,ym,rr0,rq,rq0,rm,lens,lenl,lg,c1,a1,a2,←hx,zog,rx,yda,f1,f2,i1,i2,zd4 (a:=lt.length) (b:=k) (by omega),c64,yav,slc,r1,rr2,zs (k:=k) (by omega),pkA,pkB]
       exact ⟨K2,s',rs,junk rfl,r5 rfl,hf⟩
      ·obtain ⟨r',K3,g1,g2,g3⟩:=r6 rfl
       obtain ⟨ra,rn,rcc,rfl⟩:=g3.ors.slice
       have w3:Heap.write1 K3 ⟨q,1,some 0⟩ (.slice ra rn rcc)=some (K3.set q (.cells [ks,.slice ra rn rcc,.int .i64 0,.int .i64 0] 0 false)):=by rw [jo g2 (by simp)];rfl
       simp only [zi,zb,yor,slc,zc,ym,rr0,rq,rq0,rm,lens,lenl,lg,c1,a1,a2,←hx,zog,rx,yda,f1,f2,i1,i2,zd4 (a:=lt.length) (b:=k) (by omega),c64,yav,slc,r1,rr2,rx2,rq2,g1,w3,zs (k:=k) (by omega),pkA,pkB]
       exact ⟨_,s',_,junk rfl,g3,hf⟩
    ·rw [b1] at i1;rw [b2] at i2
     rw [b1,b2] at hf
     simp only [Bool.or_true,if_true] at hf
     simp only [zi,zb,yor,wt,rr0,rq,rq0,lens,c1,a1,a2,←hx,zog,rx,yda,yk2,f1,f2,i1,i2,f42,kv,pkA,pkB]
     have:=done 42 gs[k].at_ (by omega) (by rw [cS,hf])
     simp only [yov] at this
     exact this
   ·rw [b1] at i1
    rw [b1] at hf
    simp only [yqg,if_true] at hf
    simp only [zi,zb,yor,wt,rr0,rq,rq0,lens,c1,a1,a2,←hx,zog,rx,yda,yk2,f1,i1,f42,kv,pkA,pkB]
    have:=done 42 gs[k].at_ (by omega) (by rw [cS,hf])
    simp only [yov] at this
    exact this
  ·rintro st ⟨K,gv,rs,⟨j,rfl⟩,e,hf⟩
   rw [ypq,yp5] at hf
   have hfr:bv kn lt.length [] gs=.ok ():=hf
   have rr0:∀j,Heap.read1 K ⟨h.length,j,some 0⟩=([s,.bool rc,str [],str [],nilP]:List Value)[j]?:=fun j=>by rw [zr e.row,hrow]
   have rq0:∀j,Heap.read1 K ⟨q,j,some 0⟩=([ks,rs,.int .i64 0,.int .i64 0]:List Value)[j]?:=fun j=>zr e.cq
   have c1:((gs.length:Int)<(gs.length:Int))=False:=by simp
   have og:Own [] K gv 2 ((fk gs).map zw):=by have:=e.og;rwa [ypq] at this
   have ors:Own [] K rs 1 ((if rc then gs.map (·.name) else []).map pd):=by have:=e.ors;rwa [ypq] at this
   have gb:=e.gb
   have rb:=e.rb
   have oK:Own [] K ks 2 (kn.map zw):=ok.keep fun b hb o ho=>e.keep b o ho fun hh=>D.kq (hh▸hb)
   have bK:BsP K S bs gs:=bp.keep fun b o hb ho=>e.keep b o ho (D.S b hb).2.1
   have kbl:∀b,blk ks=some b→b<h.length:=fun b hb=>(ok.lt hb).2
   cases rc
   ·have cS:chkS kn lt.length (.lets false gs)=(match zaf kn [] false gs with | .bad c a=>.bad c a | .ok l=>.ok (.lets false l)):=by
     rw [chkS,hfr];rfl
    obtain ⟨kn1,hkn1⟩:∃kn1,kn1=kn:=⟨_,rfl⟩
    obtain ⟨rc1,hrc1⟩:∃rc1:List Bys,rc1=[]:=⟨_,rfl⟩
    have hl1:kn1.length<4611686018427387904:=by rw [hkn1];omega
    have hl2:rc1.length<4611686018427387904:=by rw [hrc1];simp
    replace cS:chkS kn lt.length (.lets false gs)=(match zaf kn1 rc1 false gs with | .bad c a=>.bad c a | .ok l=>.ok (.lets false l)):=by rw [hkn1,hrc1];exact cS
    have clq:Cc q ks rs S:=⟨fun hh=>(D.S q hh).2.1 rfl,fun b hb=>⟨fun hh=>(D.S b hh).2.2.2.1 hb,fun hh=>D.kq (hh▸hb)⟩,fun b hb=>⟨fun hh=>by have:=rb b hb;have:=(D.S b hh).1;omega,fun hh=>by have:=rb b hb;have:=D.hq;omega⟩⟩
    have gkk:∀b,blk gv=some b→blk ks≠some b∧blk rs≠some b:=fun b hb=>⟨fun hh=>by have:=gb b hb;have:=kbl b hh;omega,e.gr b hb⟩
    have kmo:=D.km
    have E0:LxS h q mo ks ks rs kn1 rc1 false gs bs S row ls known L 0 K gv 0 0:=⟨e.row,e.cq,by rw [hkn1];exact oK,by rw [hrc1];simpa using ors,e.mo,⟨fk gs,zbq gs,og,fun _=>⟨[],rfl,rfl,bK,by simp only [List.drop_zero];cases zaf kn1 rc1 false gs <;> rfl,rfl⟩⟩,fun hh=>absurd rfl hh,fun b o ho n1 _ _=>e.keep b o ho n1,e.le⟩
    simp only [zi,zb,zq,rr0,lens,c1,pkA,pkB]
    refine jv 2 gs.length (Lw2 h q mo ks ks rs kn1 rc1 false gs bs S row ls known L gv) (Lp2 h q mo ks ks rs kn1 rc1 false gs bs S row ls known L gv) ?_ ?_ _ ⟨K,0,0,junk rfl,E0,fun _=>rfl⟩ ?_
    ·rintro k st hk ⟨K,x,a,⟨j,rfl⟩,e,hxa⟩
     have rr0:∀j,Heap.read1 K ⟨h.length,j,some 0⟩=([s,.bool false,str [],str [],nilP]:List Value)[j]?:=fun j=>by rw [zr e.row,hrow]
     have rq0:∀j,Heap.read1 K ⟨q,j,some 0⟩=([ks,rs,.int .i64 (x:Int),.int .i64 (a:Int)]:List Value)[j]?:=fun j=>zr e.cq
     have c1:((k:Int)<(gs.length:Int))=True:=by simp;omega
     by_cases hx:x=0
     ·subst hx
      obtain rfl:=hxa rfl
      obtain ⟨b,K1,c,ver,K2,t,hb,q1,er1,rb6,kp1,kp2,w1,w2,w3,er2,fin⟩:=zw3 D.hq D.hm D.qm hl1 hl2 e hk clq (fun hh=>(D.S mo hh).2.2.1 rfl) (fun z hz=>(D.S z hz).1) gb gkk kmo
      have hkb:k<bs.length:=by rw [lb];exact hk
      have hbb:bs[k]=b:=by rw [yow hkb] at hb;exact yqc hb
      have sK:Sl K s 3 (List.zipWith gvA gs bs):=hs.keep fun z hz o ho=>e.keep z o ho (fun hh=>D.sq (hh▸hz)) (fun hh=>(D.S z hh).2.2.2.2.2 hz) (fun hh=>D.sk z hz hh)
      have sblk:∀z,blk s=some z→z<h.length:=fun z hz=>hs.lt hz
      have sK1:Sl K1 s 3 (List.zipWith gvA gs bs):=sK.keep fun z hz o ho=>kp1 z o ho (fun hh=>(D.S z hh).2.2.2.2.2 hz) (fun hh=>D.sq (hh▸hz))
      have sK2:Sl K2 s 3 (List.zipWith gvA gs bs):=sK1.keep fun z hz o ho=>kp2 z o ho (fun hh=>by have:=gb z hh;have:=sblk z hz;omega)
      obtain ⟨bb,o,v,a1,a2⟩:=sK.atH (k:=k) (by rw [lz];exact hk)
      obtain ⟨bb1,o1,v1,a1',a2'⟩:=sK1.atH (k:=k) (by rw [lz];exact hk)
      obtain ⟨bb2,o2,v2,a1'',a2''⟩:=sK2.atH (k:=k) (by rw [lz];exact hk)
      have p1:=(a1 K).symm.trans (a1' K)
      have p2:=(a1 K).symm.trans (a1'' K)
      simp only [yot,yo2,Value.pointer.injEq,Addr.mk.injEq,and_true] at p1 p2
      obtain ⟨rfl,rfl,rfl⟩:=p1
      obtain ⟨rfl,rfl,rfl⟩:=p2
      have hz:(List.zipWith gvA gs bs)[k]'(by rw [lz];exact hk)=gvA gs[k] b:=by rw [List.getElem_zipWith,hbb]
      rw [hz] at a2 a2' a2''
      have g0:Heap.read1 K ⟨bb,o+2,some v⟩=some (pt b):=zb4 (i:=2) a2 rfl
      have g1:Heap.read1 K1 ⟨bb,o+2,some v⟩=some (pt b):=zb4 (i:=2) a2' rfl
      have g2:Heap.read1 K2 ⟨bb,o+2,some v⟩=some (pt b):=zb4 (i:=2) a2'' rfl
      have rr1:∀j,Heap.read1 K1 ⟨h.length,j,some 0⟩=([s,.bool false,str [],str [],nilP]:List Value)[j]?:=fun j=>by rw [zr er1,hrow]
      have rr2:∀j,Heap.read1 K2 ⟨h.length,j,some 0⟩=([s,.bool false,str [],str [],nilP]:List Value)[j]?:=fun j=>by rw [zr er2,hrow]
      rcases fin with ⟨x',a',hx',hq2,e2⟩ | ⟨⟨kk,ww,oo,ll,rrr,ss,hn2⟩,ca2,fin0,fin1⟩
      ·have rq2:∀j,Heap.read1 K2 ⟨q,j,some 0⟩=([ks,rs,.int .i64 (x':Int),.int .i64 (a':Int)]:List Value)[j]?:=fun j=>zr hq2
       simp only [zi,zb,zc,rr0,rq0,lens,c1,yov,a1,g0,q1,rr1,g1,rb6,w1,w2,rq2,zlh hx',zs (k:=k) (by omega),pkA,pkB]
       exact ⟨K2,x',a',junk rfl,e2,fun hh=>absurd hh hx'⟩
      ·have rq2:∀j,Heap.read1 K2 ⟨q,j,some 0⟩=([ks,rs,.int .i64 0,.int .i64 0]:List Value)[j]?:=fun j=>zr ca2.cq
       have rn2:∀j,Heap.read1 K2 ⟨b,j,some 0⟩=(xe kk ww gs[k].e.pl oo ll rrr ss)[j]?:=fun j=>zr hn2
       have ff:=zaq (a:=0) ca2.cq 41 gs[k].e.pl
       simp only [yov] at ff
       cases t
       ·simp only [zi,zb,zc,rr0,rq0,lens,c1,yov,a1,g0,q1,rr1,g1,rb6,w1,w2,rq2,rr2,zs (k:=k) (by omega),pkA,pkB]
        exact ⟨K2,0,0,junk rfl,fin0 (by simp),fun _=>rfl⟩
       ·simp only [zi,zb,zc,rr0,rq0,lens,c1,yov,a1,g0,q1,rr1,g1,rb6,w1,w2,rq2,rr2,zs (k:=k) (by omega),pkA,pkB]
        exact ⟨K2,0,0,junk rfl,fin0 (by simp),fun _=>rfl⟩
     ·simp only [zi,zb,x8,zq,rr0,rq0,lens,c1,zlh hx,x8,pkA,pkB]
      exact ⟨K,k,x,a,junk rfl,e,fun hh=>absurd hh hx⟩
    ·rintro st ⟨K,x,a,⟨j,rfl⟩,e,hxa⟩
     have rr0:∀j,Heap.read1 K ⟨h.length,j,some 0⟩=([s,.bool false,str [],str [],nilP]:List Value)[j]?:=fun j=>by rw [zr e.row,hrow]
     have c1:((gs.length:Int)<(gs.length:Int))=False:=by simp
     simp only [zi,zb,x8,zq,rr0,lens,c1,x8,pkA,pkB]
     exact ⟨K,gs.length,x,a,junk rfl,e,fun hh=>⟨hxa hh,rfl⟩⟩
    rintro st ⟨K,i,x,a,⟨j,rfl⟩,e,hxa⟩
    obtain ⟨ds,dl,ogd,hds⟩:=e.ds
    have lsb:∀b,blk ls=some b→b<h.length:=fun b hb=>(ol.lt hb).2
    have rrE:∀j,Heap.read1 K ⟨h.length,j,some 0⟩=([s,.bool false,str [],str [],nilP]:List Value)[j]?:=fun j=>by rw [zr e.row,hrow]
    have rqE:∀j,Heap.read1 K ⟨q,j,some 0⟩=([ks,rs,.int .i64 (x:Int),.int .i64 (a:Int)]:List Value)[j]?:=fun j=>zr e.cq
    have olK:Own [] K ls 2 (lt.map zw):=ol.keep fun z hz o ho=>e.keep z o ho (fun hh=>D.lq (hh▸hz)) (fun hh=>(D.S z hh).2.2.2.2.1 hz) (fun hh=>D.kl z hh hz)
    have ngq:blk gv≠some q:=fun hh=>by have:=gb q hh;have:=D.hq;omega
    have hlg:gs.length≠0:=fun hh=>hne (ypj hh)
    have leK:=e.le
    obtain ⟨ks',K6,m1,m2,m3,m4,m5⟩:=e.oks.more_rows (bytes:=24) ogd.sl (by rw [ypd,ypd,dl,hkn1];unfold wy;omega)
    obtain ⟨ka,kb,kc,rfl⟩:=m2.slice
    have c6:=m4 _ _ e.cq D.kq
    have cm6:=m4 _ _ e.mo D.km
    obtain ⟨K7,hK7⟩:∃K7,K7=K6.set q (.cells [.slice ka kb kc,rs,.int .i64 (x:Int),.int .i64 (a:Int)] 0 false):=⟨_,rfl⟩
    have w7:Heap.write1 K6 ⟨q,0,some 0⟩ (.slice ka kb kc)=some K7:=by rw [hK7,jo c6 (by simp)];rfl
    have ne7:∀z o,K[z]?=some o→z≠q→blk ks≠some z→K7[z]?=some o:=fun z o ho n1 n2=>by rw [hK7,you (yps n1)];exact m4 z o ho n2
    have c7:K7[q]?=some (.cells [.slice ka kb kc,rs,.int .i64 (x:Int),.int .i64 (a:Int)] 0 false):=by rw [hK7,yox (yoq.1 c6).1]
    have l7:K.length≤K7.length:=by rw [hK7,yo3];exact m3
    have kbl':∀b,blk (.slice ka kb kc)=some b→blk ks=some b∨K.length≤b:=fun b hb=>by
     rcases m5 with m5 | ⟨jj,m5,m6⟩
     ·rw [m5] at hb;exact .inl hb
     ·rw [m5] at hb;cases hb;exact .inr m6
    have og7:Own [] K7 gv 2 (ds.map zw):=ogd.keep fun z hz o ho=>ne7 z o ho (fun hh=>ngq (hh▸hz)) (fun hh=>by have:=kbl z hh;have:=gb z hz;omega)
    have ol7:Own [] K7 ls 2 (lt.map zw):=olK.keep fun z hz o ho=>ne7 z o ho (fun hh=>D.lq (hh▸hz)) (fun hh=>D.kl z hh hz)
    obtain ⟨E9,la,lb',lc,K9,K10,hE9,w9,r9,m9,w10,q10,mo10,ol10,lb10,kp10,le10⟩:=yip c7 (ne7 _ _ e.mo (yps D.qm) D.km) ol7 og7 D.qm D.lq D.lm ngq (by rw [dl];exact hgs) hlt
    have fin:=yil cq cm ol q10 mo10 ol10 (by rw [dl];exact hlg)
    simp only [zb,rrE,rqE,m1,w7,w9,r9,m9,w10,zx,pkA,pkB]
    rw [fin,cS]
    refine ⟨trivial,?_⟩
    by_cases hx:x=0
    ·subst hx
     obtain ⟨rfl,rfl⟩:=hxa rfl
     obtain ⟨l,ll,hdd,bpl,hch,hnm⟩:=hds rfl
     rw [yp5] at hdd bpl hch
     have hnil:fk ([]:List Gv)=[]:=rfl
     rw [hnil,ypl] at hdd
     rw [ypl] at bpl
     have hch':zaf kn1 rc1 false gs=.ok l:=by rw [hch];simp [zaf]
     rw [hch']
     rw [ypq] at hnm
     have ok10:Own [] K10 (.slice ka kb kc) 2 ((kn++x5 l).map zw):=by
      have:Own [] K7 (.slice ka kb kc) 2 ((kn++x5 l).map zw):=by
       rw [yp8,←hdd];rw [hkn1] at m2
       exact m2.keep fun z hz o ho=>by
        rw [hK7,you (fun hh=>(kbl' z hz).elim (fun h1=>D.kq (by rw [hh];exact h1)) (fun h1=>by have:=D.hq;omega))];exact ho
      exact this.keep fun z hz o ho=>kp10 z o ho (fun hh=>(kbl' z hz).elim (fun h1=>D.kq (by rw [←hh];exact h1)) (fun h1=>by have:=D.hq;omega)) (fun hh=>(kbl' z hz).elim (fun h1=>D.km (by rw [←hh];exact h1)) (fun h1=>by have:=D.hm;omega)) (fun hh=>(kbl' z hz).elim (fun h1=>D.kl z h1 hh) (fun h1=>by have:=lsb z hh;omega))
     refine ⟨.slice ka kb kc,.slice la lb' lc,l,rfl,q10,ok10,mo10,by rw [←hdd];exact ol10,bpl.keep fun z o hz ho=>kp10 z o (ne7 z o ho (D.S z hz).2.1 (D.S z hz).2.2.2.1) (D.S z hz).2.1 (D.S z hz).2.2.1 (D.S z hz).2.2.2.2.1,hnm,fun b hb=>(kbl' b hb).imp id fun hh=>by omega,fun b hb=>(lb10 b hb).imp id fun hh=>by omega,fun b hb hb'=> ?_,fun z o ho n1 n2 n3 n4 n5=>kp10 z o (ne7 z o (e.keep z o ho n1 n3 n4) n1 n4) n1 n2 n5,by omega⟩
     rcases kbl' b hb with h1 | h1 <;> rcases lb10 b hb' with h2 | h2
     ·exact D.kl b h1 h2
     ·have:=kbl b h1;omega
     ·have:=lsb b h2;omega
     ·have:=(m2.lt hb).2;rw [hK7,yo3] at h2;omega
    ·rw [e.bad hx]
     exact ⟨hx,⟨_,_,q10⟩,⟨_,mo10⟩,fun z o ho n1 n2 n3 n4 n5=>kp10 z o (ne7 z o (e.keep z o ho n1 n3 n4) n1 n4) n1 n2 n5,by omega⟩
   ·have cS:chkS kn lt.length (.lets true gs)=(match zaf (kn++fk gs) (gs.map (·.name)) true gs with | .bad c a=>.bad c a | .ok l=>.ok (.lets true l)):=by
     rw [chkS,hfr];rfl
    obtain ⟨kn1,hkn1⟩:∃kn1,kn1=kn++fk gs:=⟨_,rfl⟩
    obtain ⟨rc1,hrc1⟩:∃rc1:List Bys,rc1=gs.map (·.name):=⟨_,rfl⟩
    have hl1:kn1.length<4611686018427387904:=by rw [hkn1,yo8,zbq];omega
    have hl2:rc1.length<4611686018427387904:=by rw [hrc1,ypd];omega
    replace cS:chkS kn lt.length (.lets true gs)=(match zaf kn1 rc1 true gs with | .bad c a=>.bad c a | .ok l=>.ok (.lets true l)):=by rw [hkn1,hrc1];exact cS
    obtain ⟨ks',K4,m1,m2,m3,m4,m5⟩:=oK.more_rows (bytes:=24) og.sl (by rw [ypd,ypd,zbq];unfold wy;omega)
    have c4:=m4 _ _ e.cq D.kq
    obtain ⟨ka,kb,kc,rfl⟩:=m2.slice
    obtain ⟨K5,hK5⟩:∃K5,K5=K4.set q (.cells [.slice ka kb kc,rs,.int .i64 0,.int .i64 0] 0 false):=⟨_,rfl⟩
    have w5:Heap.write1 K4 ⟨q,0,some 0⟩ (.slice ka kb kc)=some K5:=by rw [hK5,jo c4 (by simp)];rfl
    have kbl':∀b,blk (.slice ka kb kc)=some b→blk ks=some b∨K.length≤b:=fun b hb=>by
     rcases m5 with m5 | ⟨jj,m5,m6⟩
     ·rw [m5] at hb;exact .inl hb
     ·rw [m5] at hb;cases hb;exact .inr m6
    have le:=e.le
    have old:∀z o,K[z]?=some o→z≠q→blk ks≠some z→K5[z]?=some o:=fun z o ho n1 n2=>by rw [hK5,you (yps n1)];exact m4 z o ho n2
    have clq:Cc q (.slice ka kb kc) rs S:=⟨fun hh=>(D.S q hh).2.1 rfl,fun b hb=>⟨fun hh=>by
      rcases kbl' b hb with h1 | h1
      ·exact (D.S b hh).2.2.2.1 h1
      ·have:=(D.S b hh).1;omega,fun hh=>by
      rcases kbl' b hb with h1 | h1
      ·exact D.kq (hh▸h1)
      ·have:=D.hq;omega⟩,fun b hb=>⟨fun hh=>by have:=rb b hb;have:=(D.S b hh).1;omega,fun hh=>by have:=rb b hb;have:=D.hq;omega⟩⟩
    have gkk:∀b,blk gv=some b→blk (.slice ka kb kc)≠some b∧blk rs≠some b:=fun b hb=>⟨fun hh=>by
      have:=gb b hb
      rcases kbl' b hh with h1 | h1
      ·have:=kbl b h1;omega
      ·have:=(og.lt hb).2;omega,e.gr b hb⟩
    have kmo:blk (.slice ka kb kc)≠some mo:=fun hh=>by
     rcases kbl' mo hh with h1 | h1
     ·exact D.km h1
     ·have:=D.hm;omega
    have ks_h:blk ks≠some h.length:=fun hh=>by have:=kbl _ hh;omega
    have E0:LxS h q mo ks (.slice ka kb kc) rs kn1 rc1 true gs bs S row ls known L 0 K5 gv 0 0:=
     ⟨old _ _ e.row (by have:=D.hq;omega) ks_h,by rw [hK5,yox (yoq.1 c4).1];rfl,
      by rw [hkn1,yp8];exact m2.keep fun z hz o ho=>by rw [hK5,you (fun hh=>(clq.k z hz).2 hh.symm)];exact ho,
      by rw [hrc1];have:=ors;rw [if_pos rfl] at this;exact this.keep fun z hz o ho=>old z o ho (clq.r z hz).2 fun hh=>by have:=kbl z hh;have:=rb z hz;omega,
      old _ _ e.mo (yps D.qm) D.km,
      ⟨fk gs,zbq gs,og.keep fun z hz o ho=>old z o ho (fun hh=>by have:=gb z hz;have:=D.hq;omega) fun hh=>by have:=kbl z hh;have:=gb z hz;omega,fun _=>⟨[],rfl,rfl,bK.keep fun z o hz ho=>old z o ho (D.S z hz).2.1 (D.S z hz).2.2.2.1,by simp only [List.drop_zero];cases zaf kn1 rc1 true gs <;> rfl,rfl⟩⟩,
      fun hh=>absurd rfl hh,fun b o ho n1 _ n3=>old b o (e.keep b o ho n1) n1 n3,by rw [hK5,yo3];omega⟩
    simp only [zi,zb,zq,rr0,rq0,lens,c1,m1,w5,pkA,pkB]
    refine jv 2 gs.length (Lw2 h q mo ks (.slice ka kb kc) rs kn1 rc1 true gs bs S row ls known L gv) (Lp2 h q mo ks (.slice ka kb kc) rs kn1 rc1 true gs bs S row ls known L gv) ?_ ?_ _ ⟨K5,0,0,junk rfl,E0,fun _=>rfl⟩ ?_
    ·rintro k st hk ⟨K,x,a,⟨j,rfl⟩,e,hxa⟩
     have rr0:∀j,Heap.read1 K ⟨h.length,j,some 0⟩=([s,.bool true,str [],str [],nilP]:List Value)[j]?:=fun j=>by rw [zr e.row,hrow]
     have rq0:∀j,Heap.read1 K ⟨q,j,some 0⟩=([(.slice ka kb kc),rs,.int .i64 (x:Int),.int .i64 (a:Int)]:List Value)[j]?:=fun j=>zr e.cq
     have c1:((k:Int)<(gs.length:Int))=True:=by simp;omega
     by_cases hx:x=0
     ·subst hx
      obtain rfl:=hxa rfl
      obtain ⟨b,K1,c,ver,K2,t,hb,q1,er1,rb6,kp1,kp2,w1,w2,w3,er2,fin⟩:=zw3 D.hq D.hm D.qm hl1 hl2 e hk clq (fun hh=>(D.S mo hh).2.2.1 rfl) (fun z hz=>(D.S z hz).1) gb gkk kmo
      have hkb:k<bs.length:=by rw [lb];exact hk
      have hbb:bs[k]=b:=by rw [yow hkb] at hb;exact yqc hb
      have sK:Sl K s 3 (List.zipWith gvA gs bs):=hs.keep fun z hz o ho=>e.keep z o ho (fun hh=>D.sq (hh▸hz)) (fun hh=>(D.S z hh).2.2.2.2.2 hz) (fun hh=>D.sk z hz hh)
      have sblk:∀z,blk s=some z→z<h.length:=fun z hz=>hs.lt hz
      have sK1:Sl K1 s 3 (List.zipWith gvA gs bs):=sK.keep fun z hz o ho=>kp1 z o ho (fun hh=>(D.S z hh).2.2.2.2.2 hz) (fun hh=>D.sq (hh▸hz))
      have sK2:Sl K2 s 3 (List.zipWith gvA gs bs):=sK1.keep fun z hz o ho=>kp2 z o ho (fun hh=>by have:=gb z hh;have:=sblk z hz;omega)
      obtain ⟨bb,o,v,a1,a2⟩:=sK.atH (k:=k) (by rw [lz];exact hk)
      obtain ⟨bb1,o1,v1,a1',a2'⟩:=sK1.atH (k:=k) (by rw [lz];exact hk)
      obtain ⟨bb2,o2,v2,a1'',a2''⟩:=sK2.atH (k:=k) (by rw [lz];exact hk)
      have p1:=(a1 K).symm.trans (a1' K)
      have p2:=(a1 K).symm.trans (a1'' K)
      simp only [yot,yo2,Value.pointer.injEq,Addr.mk.injEq,and_true] at p1 p2
      obtain ⟨rfl,rfl,rfl⟩:=p1
      obtain ⟨rfl,rfl,rfl⟩:=p2
      have hz:(List.zipWith gvA gs bs)[k]'(by rw [lz];exact hk)=gvA gs[k] b:=by rw [List.getElem_zipWith,hbb]
      rw [hz] at a2 a2' a2''
      have g0:Heap.read1 K ⟨bb,o+2,some v⟩=some (pt b):=zb4 (i:=2) a2 rfl
      have g1:Heap.read1 K1 ⟨bb,o+2,some v⟩=some (pt b):=zb4 (i:=2) a2' rfl
      have g2:Heap.read1 K2 ⟨bb,o+2,some v⟩=some (pt b):=zb4 (i:=2) a2'' rfl
      have rr1:∀j,Heap.read1 K1 ⟨h.length,j,some 0⟩=([s,.bool true,str [],str [],nilP]:List Value)[j]?:=fun j=>by rw [zr er1,hrow]
      have rr2:∀j,Heap.read1 K2 ⟨h.length,j,some 0⟩=([s,.bool true,str [],str [],nilP]:List Value)[j]?:=fun j=>by rw [zr er2,hrow]
      rcases fin with ⟨x',a',hx',hq2,e2⟩ | ⟨⟨kk,ww,oo,ll,rrr,ss,hn2⟩,ca2,fin0,fin1⟩
      ·have rq2:∀j,Heap.read1 K2 ⟨q,j,some 0⟩=([(.slice ka kb kc),rs,.int .i64 (x':Int),.int .i64 (a':Int)]:List Value)[j]?:=fun j=>zr hq2
       simp only [zi,zb,zc,rr0,rq0,lens,c1,yov,a1,g0,q1,rr1,g1,rb6,w1,w2,rq2,zlh hx',zs (k:=k) (by omega),pkA,pkB]
       exact ⟨K2,x',a',junk rfl,e2,fun hh=>absurd hh hx'⟩
      ·have rq2:∀j,Heap.read1 K2 ⟨q,j,some 0⟩=([(.slice ka kb kc),rs,.int .i64 0,.int .i64 0]:List Value)[j]?:=fun j=>zr ca2.cq
       have rn2:∀j,Heap.read1 K2 ⟨b,j,some 0⟩=(xe kk ww gs[k].e.pl oo ll rrr ss)[j]?:=fun j=>zr hn2
       have ff:=zaq (a:=0) ca2.cq 41 gs[k].e.pl
       simp only [yov] at ff
       cases t
       ·simp only [zi,zb,zc,rr0,rq0,lens,c1,yov,a1,g0,q1,rr1,g1,rb6,w1,w2,rq2,rr2,w3,zs (k:=k) (by omega),pkA,pkB]
        exact ⟨K2,0,0,junk rfl,fin0 (by simp),fun _=>rfl⟩
       ·simp only [zi,zb,zc,rr0,rq0,lens,c1,yov,a1,g0,q1,rr1,g1,rb6,w1,w2,rq2,rr2,w3,g2,rn2,ko,ff,zs (k:=k) (by omega),pkA,pkB]
        exact ⟨_,41,gs[k].e.pl,junk rfl,fin1 (by simp),fun hh=>absurd hh (by omega)⟩
     ·simp only [zi,zb,x8,zq,rr0,rq0,lens,c1,zlh hx,x8,pkA,pkB]
      exact ⟨K,k,x,a,junk rfl,e,fun hh=>absurd hh hx⟩
    ·rintro st ⟨K,x,a,⟨j,rfl⟩,e,hxa⟩
     have rr0:∀j,Heap.read1 K ⟨h.length,j,some 0⟩=([s,.bool true,str [],str [],nilP]:List Value)[j]?:=fun j=>by rw [zr e.row,hrow]
     have c1:((gs.length:Int)<(gs.length:Int))=False:=by simp
     simp only [zi,zb,x8,zq,rr0,lens,c1,x8,pkA,pkB]
     exact ⟨K,gs.length,x,a,junk rfl,e,fun hh=>⟨hxa hh,rfl⟩⟩
    rintro st ⟨K,i,x,a,⟨j,rfl⟩,e,hxa⟩
    obtain ⟨ds,dl,ogd,hds⟩:=e.ds
    have lsb:∀b,blk ls=some b→b<h.length:=fun b hb=>(ol.lt hb).2
    have rrE:∀j,Heap.read1 K ⟨h.length,j,some 0⟩=([s,.bool true,str [],str [],nilP]:List Value)[j]?:=fun j=>by rw [zr e.row,hrow]
    have rqE:∀j,Heap.read1 K ⟨q,j,some 0⟩=([(.slice ka kb kc),rs,.int .i64 (x:Int),.int .i64 (a:Int)]:List Value)[j]?:=fun j=>zr e.cq
    have olK:Own [] K ls 2 (lt.map zw):=ol.keep fun z hz o ho=>e.keep z o ho (fun hh=>D.lq (hh▸hz)) (fun hh=>(D.S z hh).2.2.2.2.1 hz) (fun hh=>D.kl z hh hz)
    have ngq:blk gv≠some q:=fun hh=>by have:=gb q hh;have:=D.hq;omega
    have hlg:gs.length≠0:=fun hh=>hne (ypj hh)
    have leK:=e.le
    obtain ⟨E9,la,lb',lc,K9,K10,hE9,w9,r9,m9,w10,q10,mo10,ol10,lb10,kp10,le10⟩:=yip e.cq e.mo olK ogd D.qm D.lq D.lm ngq (by rw [dl];exact hgs) hlt
    have fin:=yil cq cm ol q10 mo10 ol10 (by rw [dl];exact hlg)
    simp only [zb,rrE,w9,r9,m9,w10,zx,pkA,pkB]
    rw [fin,cS]
    refine ⟨trivial,?_⟩
    by_cases hx:x=0
    ·subst hx
     obtain ⟨rfl,rfl⟩:=hxa rfl
     obtain ⟨l,ll,hdd,bpl,hch,hnm⟩:=hds rfl
     rw [yp5] at hdd bpl hch
     have hnil:fk ([]:List Gv)=[]:=rfl
     rw [hnil,ypl] at hdd
     rw [ypl] at bpl
     have hch':zaf kn1 rc1 true gs=.ok l:=by rw [hch];simp [zaf]
     rw [hch']
     rw [ypq] at hnm
     have hset:=zk4 hch'
     have hsets:x5 l=fk gs:=by
      have h1:x5 l=fk l:=List.map_congr_left fun g hg=>by rw [hset g hg]
      have h2:=congrArg (List.map fun p:Bys×Nat=>(p.1,false)) hnm
      simp only [List.map_map,Function.comp_def] at h2
      rw [h1];exact h2
     have ok10:Own [] K10 (.slice ka kb kc) 2 ((kn++x5 l).map zw):=by
      rw [hsets,←hkn1]
      exact e.oks.keep fun z hz o ho=>kp10 z o ho (clq.k z hz).2 (fun hh=>kmo (hh▸hz)) (fun hh=>(kbl' z hz).elim (fun h1=>D.kl z h1 hh) (fun h1=>by have:=lsb z hh;omega))
     refine ⟨.slice ka kb kc,.slice la lb' lc,l,rfl,q10,ok10,mo10,by rw [←hdd];exact ol10,bpl.keep fun z o hz ho=>kp10 z o ho (D.S z hz).2.1 (D.S z hz).2.2.1 (D.S z hz).2.2.2.2.1,hnm,fun b hb=>(kbl' b hb).imp id fun hh=>by omega,fun b hb=>(lb10 b hb).imp id fun hh=>by omega,fun b hb hb'=> ?_,fun z o ho n1 n2 n3 n4 n5=>kp10 z o (e.keep z o ho n1 n3 n4) n1 n2 n5,by omega⟩
     rcases kbl' b hb with h1 | h1 <;> rcases lb10 b hb' with h2 | h2
     ·exact D.kl b h1 h2
     ·have:=kbl b h1;omega
     ·have:=lsb b h2;omega
     ·have:=(e.oks.lt hb).2;omega
    ·rw [e.bad hx]
     exact ⟨hx,⟨_,_,q10⟩,⟨_,mo10⟩,fun z o ho n1 n2 n3 n4 n5=>kp10 z o (e.keep z o ho n1 n3 n4) n1 n2 n5,by omega⟩
 obtain ⟨v,h',r,rfl,g⟩:=this
 exact ⟨h',r,g⟩
/-- How far the statements are looked at; q: the checker lies behind B. -/
structure CkS (mb:Nat) (B K:Heap) (R0:CR (List Stm)) (kn0:Kn) (known ss:Value) (T:Nat→Prop) (stms:List Stm) (rows:List (List Value)) (i x a:Nat):Prop where
 ok:x=0→a=0∧∃lt ks ls l',K[B.length]?=some (.cells [ks,.slice none 0 0,.int .i64 0,.int .i64 0] 0 false)∧K[mb]?=some (.cells [known,ls,ss] 0 false)∧Own [] K ks 2 ((kn0++lt).map zw)∧Own [] K ls 2 (lt.map zw)∧StsA K T rows (l'++stms.drop i)∧l'.length=i∧lt=zbz l'∧lt.length≤64∧
  R0=(match chkM (kn0++lt) lt.length (stms.drop i) with | .bad c a=>.bad c a | .ok l2=>.ok (l'++l2))∧(∀b,blk ks=some b→B.length<b)∧(∀b,blk ls=some b→B.length<b)∧∀b,blk ks=some b→blk ls≠some b
 bad:x≠0→R0=.bad x a∧(∃v1 v2,K[B.length]?=some (.cells [v1,v2,.int .i64 (x:Int),.int .i64 (a:Int)] 0 false))∧∃ls,K[mb]?=some (.cells [known,ls,ss] 0 false)
 keep:∀b o,B[b]?=some o→b≠mb→¬T b→K[b]?=some o
 le:B.length<K.length
theorem yen:∀{l gs:List Gv} {bs:List Nat},l.map (fun g=>(g.name,g.at_))=gs.map (fun g=>(g.name,g.at_))→List.zipWith gvA l bs=List.zipWith gvA gs bs
 | [],[],bs,h=>rfl
 | _::_,[],bs,h=>by simp at h
 | [],_::_,bs,h=>by simp at h
 | _::_,_::_,[],h=>by simp
 | g::l,f::gs,b::bs,h=>by
  simp only [ypr,List.cons.injEq,yo2] at h
  simp only [List.zipWith_cons_cons,gvA,h.1.1,h.1.2,yen h.2]
theorem ye5 {α:Type} {l' l:List α} {i:Nat} {x:α} (hl:l'.length=i) (hi:i<l.length):(l'++l.drop i).set i x=(l'++[x])++l.drop (i+1):=by
 subst hl
 rw [List.set_append_right _ _ (yoz _),ypo hi]
 simp only [Nat.sub_self,List.set_cons_zero,yp4,List.singleton_append]
theorem ydp {α:Type} {l' l:List α} {i:Nat} (hl:l'.length=i) (hi:i<l.length) (h:i<(l'++l.drop i).length):(l'++l.drop i)[i]=l[i]:=by
 subst hl
 rw [List.getElem_append_right (yoz _)]
 simp
theorem yks {mb i : Nat} {B K : Heap} {R0 : CR (List Stm)} {kn0 : Kn} {known ss : Value} {T : Nat → Prop} {stms : List Stm} {rows : List (List Value)} {rc : Bool} {gs : List Gv} (e : CkS mb B K R0 kn0 known ss T stms rows i 0 0) (hi : i < stms.length) (hs : stms[i] = .lets rc gs) (hmb : mb < B.length) (hT : ∀ z, T z → z < B.length ∧ z ≠ mb) (hgs : gs.length ≤ 8192) (hne : gs ≠ []) (hk0 : kn0.length ≤ 10000) :
    ∃ s K1 x a, rows[i]? = some [s, .bool rc, str [], str [], nilP] ∧ DF FF vc [pt B.length, pt mb, agg [s, .bool rc, str [], str [], nilP]] (K ++ [.cells [s, .bool rc, str [], str [], nilP] 0 false]) = some (tup [], K1) ∧ CkS mb B K1 R0 kn0 known ss T stms rows (i + 1) x a := by
  obtain ⟨eok, _, ekeep, ele⟩ := e
  obtain ⟨_, lt, ks, ls, l', cq, cm, ok, ol, sts, ll, hlt, hl64, hR, kb, lb, kl⟩ := eok rfl
  have hi2 : i < (l' ++ stms.drop i).length := by rw [yo8, ypf]; omega
  obtain ⟨r, Ti, hr, st, hTi, f⟩ := sts.focus hi2
  rw [ydp ll hi hi2, hs] at st
  obtain ⟨s, bs, S, rfl, hsl, hbp, h1, h2⟩ := st
  have tB : ∀ z, Ti z → z < B.length ∧ z ≠ mb := fun z hz => hT z (hTi z hz)
  obtain ⟨J, hJ⟩ : ∃ J, J = K ++ [AObj.cells [s, .bool rc, str [], str [], nilP] 0 false] := ⟨_, rfl⟩
  have lJ : J.length = K.length + 1 := by rw [hJ]; simp
  have gJ : ∀ (z : Nat) (o : AObj), K[z]? = some o → J[z]? = some o := fun z o ho => by rw [hJ]; exact zm _ ho
  obtain ⟨K1, q1, lr⟩ := yk7 (rc := rc) (gJ _ _ cq) (by rw [hJ]; exact ok.more _) (gJ _ _ cm) (by rw [hJ]; exact ol.more _) (by rw [hJ]; exact hsl.more _) (hbp.keep fun b o _ ho => gJ b o ho) (by rw [yo8]; omega) (by omega) hgs hne
    ⟨by omega, by omega, by omega, fun hh => by have := kb _ hh; omega, fun hh => by have := kb _ hh; omega, fun hh => by have := lb _ hh; omega, fun hh => by have := lb _ hh; omega, kl, fun hh => by have := (tB _ (h2 _ hh)).1; omega, fun hh => (tB _ (h2 _ hh)).2 rfl, fun b hb hk => by have := (tB _ (h2 _ hb)).1; have := kb _ hk; omega, fun b hb hk => by have := (tB _ (h2 _ hb)).1; have := lb _ hk; omega,
      fun z hz => ⟨by have := (tB _ (h1 _ hz).1).1; omega, by have := (tB _ (h1 _ hz).1).1; omega, (tB _ (h1 _ hz).1).2, fun hh => by have := (tB _ (h1 _ hz).1).1; have := kb _ hh; omega, fun hh => by have := (tB _ (h1 _ hz).1).1; have := lb _ hh; omega, (h1 _ hz).2⟩⟩
  rw [ye7 hi, hs] at hR
  have q2 := q1
  rw [hJ] at q2
  cases hx : chkS (kn0 ++ lt) lt.length (.lets rc gs) with
  | bad c a =>
    rw [hx] at lr hR
    obtain ⟨hc, ⟨v1, v2, hq1⟩, ⟨v3, hm1⟩, kp, le1⟩ := lr
    exact ⟨s, K1, c, a, hr, q2, fun hh => absurd hh hc, fun _ => ⟨hR, ⟨v1, v2, hq1⟩, v3, hm1⟩, fun b o ho n1 n2 => by
      have hlt := (yoq.1 ho).1
      exact kp b o (gJ _ _ (ekeep b o ho n1 n2)) (by omega) n1 (fun hh => n2 (hTi _ (h1 _ hh).1)) (fun hh => by have := kb _ hh; omega) (fun hh => by have := lb _ hh; omega), by omega⟩
  | ok s' =>
    rw [hx] at lr hR
    obtain ⟨ks', ls', l, rfl, hq1, ok1, hm1, ol1, bp1, hnm, kb1, lb1, kl1, kp, le1⟩ := lr
    have hll : l.length = gs.length := by simpa using congrArg List.length hnm
    have hfl : lt.length + gs.length ≤ 64 := by
      rw [chkS] at hx
      cases hf : bv (kn0 ++ lt) lt.length [] gs with
      | bad c a => rw [hf] at hx; cases hx
      | ok u => rcases znl hf with h | h
                · omega
                · exact absurd h hne
    refine ⟨s, K1, 0, 0, hr, q2, fun _ => ⟨rfl, lt ++ x5 l, ks', ls', l' ++ [.lets rc l], hq1, hm1, by rw [← yp4]; exact ok1, ol1, ?_, by simp [ll], by rw [hlt]; simp [zbz, Stm.given], by rw [yo8, x5, ypd]; omega, ?_, fun b hb => ?_, fun b hb => ?_, kl1⟩, fun hh => absurd rfl hh, fun b o ho n1 n2 => ?_, by omega⟩
    · rw [← ye5 ll hi]
      refine f K1 _ ⟨s, bs, S, rfl, ?_, bp1, h1, h2⟩ fun z o hz hn ho => ?_
      · rw [yen hnm]
        exact hsl.keep fun b hb o ho => kp b o (gJ _ _ ho) (by have := (tB _ (h2 _ hb)).1; omega) (tB _ (h2 _ hb)).2 (fun hh => (h1 _ hh).2 hb) (fun hh => by have := (tB _ (h2 _ hb)).1; have := kb _ hh; omega) (fun hh => by have := (tB _ (h2 _ hb)).1; have := lb _ hh; omega)
      · have hzT := hT z hz
        exact kp z o (gJ _ _ ho) (by omega) hzT.2 (fun hh => hn (h1 _ hh).1) (fun hh => by have := kb _ hh; omega) (fun hh => by have := lb _ hh; omega)
    · rw [hR]
      simp only [Stm.given, yp4, yo8]
      cases chkM (kn0 ++ (lt ++ x5 l)) (lt.length + (x5 l).length) (stms.drop (i + 1)) <;> simp
    · rcases kb1 b hb with h | h
      · exact kb b h
      · omega
    · rcases lb1 b hb with h | h
      · exact lb b h
      · omega
    · have hlt := (yoq.1 ho).1
      exact kp b o (gJ _ _ (ekeep b o ho n1 n2)) (by omega) n1 (fun hh => n2 (hTi _ (h1 _ hh).1)) (fun hh => by have := kb _ hh; omega) (fun hh => by have := lb _ hh; omega)
/-- A check. -/
theorem ynf {mb i:Nat} {B K:Heap} {R0:CR (List Stm)} {kn0:Kn} {known ss:Value} {T:Nat→Prop} {stms:List Stm} {rows:List (List Value)} {k:Ck} {x:Ex} {as_:Bys} (e:CkS mb B K R0 kn0 known ss T stms rows i 0 0) (hi:i<stms.length) (hs:stms[i]=.chk k x as_) (hmb:mb<B.length) (hT:∀z,T z→z<B.length∧z≠mb) (hk0:kn0.length≤10000):
  ∃b row K1,row=[.slice none 0 0,.bool false,str (ckS k),str as_,pt b]∧rows[i]?=some row∧DF FF zn [pt B.length,pt b,.bool false] (K++[.cells row 0 false])=some (tup [],K1)∧K1[K.length]?=some (.cells row 0 false)∧
   ((∃c a:Nat,c≠0∧(∃v1 v2,K1[B.length]?=some (.cells [v1,v2,.int .i64 (c:Int),.int .i64 (a:Int)] 0 false))∧CkS mb B K1 R0 kn0 known ss T stms rows (i+1) c a)∨
    (∃kk w o l r t ks,K1[b]?=some (.cells (xe kk w x.pl o l r t) 0 false)∧K1[B.length]?=some (.cells [ks,.slice none 0 0,.int .i64 ((0:Nat):Int),.int .i64 ((0:Nat):Int)] 0 false)∧((t&&k !=.empty)=false→CkS mb B K1 R0 kn0 known ss T stms rows (i+1) 0 0)∧
    ((t&&k !=.empty)=true→CkS mb B (K1.set B.length (.cells [ks,.slice none 0 0,.int .i64 ((41:Nat):Int),.int .i64 (x.pl:Int)] 0 false)) R0 kn0 known ss T stms rows (i+1) 41 x.pl))):=by
 obtain ⟨eok,_,ekeep,ele⟩:=e
 obtain ⟨_,lt,ks,ls,l',cq,cm,ok,ol,sts,ll,hlt,hl64,hR,kb,lb,kl⟩:=eok rfl
 have hi2:i<(l'++stms.drop i).length:=by rw [yo8,ypf];omega
 obtain ⟨row,Ti,hr,st,hTi,f⟩:=sts.focus hi2
 rw [ydp ll hi hi2,hs] at st
 obtain ⟨b,hrow,tr⟩:=st
 have tB:∀z,Ti z→z<B.length∧z≠mb:=fun z hz=>hT z (hTi z hz)
 obtain ⟨J,hJ⟩:∃J,J=K++[AObj.cells row 0 false]:=⟨_,rfl⟩
 have gJ:∀(z:Nat) (o:AObj),K[z]?=some o→J[z]?=some o:=fun z o ho=>by rw [hJ];exact zm _ ho
 have lJ:J.length=K.length+1:=by rw [hJ];simp
 have cc:Cc B.length ks (.slice none 0 0) Ti:=⟨fun hh=>by have:=(tB _ hh).1;omega,fun b hb=>⟨fun hh=>by have:=(tB _ hh).1;have:=kb _ hb;omega,by have:=kb _ hb;omega⟩,fun b hb=>by simp [blk] at hb⟩
 obtain ⟨K1,q1,ty,kq⟩:=zji (kn0++lt) [] (by rw [yo8];omega) (by simp) x false J B.length b x.pl ks (.slice none 0 0) Ti ⟨gJ _ _ cq,by rw [hJ];exact ok.sl.more _,(Own.nil [] J 1).sl⟩ (tr.keep fun z o _ ho=>gJ z o ho) cc
 have hrow1:K1[K.length]?=some (.cells row 0 false):=kq.keep _ _ (by rw [hJ];simp) (fun hh=>by have:=(tB _ hh).1;omega) (by omega)
 have hm1:K1[mb]?=some (.cells [known,ls,ss] 0 false):=kq.keep _ _ (gJ _ _ cm) (fun hh=>(tB _ hh).2 rfl) (by omega)
 have ekeep1:∀b o,B[b]?=some o→b≠mb→¬T b→K1[b]?=some o:=fun b o ho n1 n2=>by
  have hlt:=(yoq.1 ho).1
  exact kq.keep b o (gJ _ _ (ekeep b o ho n1 n2)) (fun hh=>n2 (hTi _ hh)) (by omega)
 have le1:B.length<K1.length:=by rw [kq.len];omega
 rw [ye7 hi,hs,chkS] at hR
 refine ⟨b,row,K1,hrow,hr,by rw [←hJ];exact q1,hrow1,?_⟩
 cases hx:chkE (kn0++lt) [] false x with
 | bad c a=>
  rw [hx] at ty hR
  obtain ⟨hc,_,ca⟩:=ty
  exact .inl ⟨c,a,hc,⟨_,_,ca.cq⟩,fun hh=>absurd hh hc,fun _=>⟨hR,⟨_,_,ca.cq⟩,ls,hm1⟩,ekeep1,le1⟩
 | ok x'=>
  rw [hx] at ty hR
  simp only at hR
  obtain ⟨tr1,hpl,ca⟩:=ty
  obtain ⟨kk,w,o,l,r,_,hb1⟩:=tr1.root
  rw [(zdb hx).2] at hb1
  refine .inr ⟨kk,w,o,l,r,x'.set,ks,hb1,ca.cq,fun ht=> ?_,fun ht=> ?_⟩
  ·have ht2:(k !=.empty&&x'.set)=false:=by rw [Bool.and_comm];exact ht
   rw [if_neg (by rw [ht2];simp)] at hR
   refine ⟨fun _=>⟨rfl,lt,ks,ls,l'++[.chk k x' as_],ca.cq,hm1,ok.keep fun b hb o ho=>kq.keep b o (gJ _ _ ho) (cc.k b hb).1 (cc.k b hb).2,ol.keep fun b hb o ho=>kq.keep b o (gJ _ _ ho) (fun hh=>by have:=(tB _ hh).1;have:=lb _ hb;omega) (by have:=lb _ hb;omega),?_,by simp [ll],by rw [hlt];simp [zbz,Stm.given],hl64,?_,kb,lb,kl⟩,fun hh=>absurd rfl hh,ekeep1,le1⟩
   ·rw [←ye5 ll hi]
    exact f K1 _ ⟨b,hrow,by rw [hpl];exact tr1⟩ fun z o hz hn ho=>kq.keep z o (gJ _ _ ho) hn (by have:=(hT z hz).1;omega)
   ·rw [hR]
    simp only [Stm.given,ypl,List.length_nil,yqe]
    cases chkM (kn0++lt) lt.length (stms.drop (i+1))<;> simp
  ·have ht2:(k !=.empty&&x'.set)=true:=by rw [Bool.and_comm];exact ht
   rw [if_pos ht2] at hR
   exact ⟨fun hh=>absurd hh (by omega),fun _=>⟨hR,⟨_,_,yox le1⟩,ls,by rw [you (by omega)];exact hm1⟩,fun b o ho n1 n2=>by
    have hlt:=(yoq.1 ho).1
    rw [you (by omega)];exact ekeep1 b o ho n1 n2,by rw [yo3];exact le1⟩
/-- A model in memory, yoi the document lays it, its objects among U. -/
structure MdD (K:Heap) (U:Nat→Prop) (mb:Nat) (md:Md):Prop where
 ex:∃ks ls ss rows T,K[mb]?=some (.cells [ks,ls,ss] 0 false)∧Sl K ks 2 (md.known.map zw)∧Sl K ls 2 ((zbz md.l).map zw)∧Sl K ss 5 rows∧StsA K T rows md.l∧(∀z,T z→U z)∧(∀b,blk ks=some b→U b)∧(∀b,blk ls=some b→U b)∧∀b,blk ss=some b→U b
 mb:U mb
 len:md.l.length≤8193∧md.known.length≤10000∧(zbz md.l).length≤64
def MdR (h h':Heap) (v:Value):CR Md→Prop
 | .bad c a=>v=tup [nilP,.int .i64 (c:Int),.int .i64 (a:Int)]∧h'=h∧c≠0
 | .ok md=>∃mb,v=tup [pt mb,.int .i64 0,.int .i64 0]∧MdD h' (fun z=>h.length≤z∧z<h'.length) mb md
theorem zwn {h K:Heap} (p:Pre h K) (c a:Nat) (hc:c≠0):MdR h (AM.finish h (tup [nilP,.int .i64 (c:Int),.int .i64 (a:Int)]) K) (tup [nilP,.int .i64 (c:Int),.int .i64 (a:Int)]) (.bad c a)∧Pre h (AM.finish h (tup [nilP,.int .i64 (c:Int),.int .i64 (a:Int)]) K):=by
 obtain ⟨L,rfl⟩:=p
 rw [ft h L rfl]
 exact ⟨⟨rfl,rfl,hc⟩,Pre.refl h⟩
def KnI (mb:Nat) (H5:Heap) (names:Kn) (ns ss:Value) (k:Nat) (st:St):Prop:=∃K,(∃j:Nat→Value,st=⟨[j 0,ns,j 2,j 3,j 4,j 5,j 6,j 7,j 8,j 9,j 10,pt mb,.int .i64 (k:Int),j 13,j 14,j 15,j 16,j 17,j 18,j 19,j 20,j 21,j 22,j 23,j 24,j 25,j 26,j 27,j 28,j 29,j 30,j 31,j 32,j 33,j 34,j 35,j 36,j 37,j 38,j 39,j 40,j 41,j 42,j 43,j 44,j 45,j 46,j 47,j 48,j 49,j 50,j 51,j 52,j 53,j 54,j 55,j 56,j 57,j 58,j 59,j 60,j 61,j 62,j 63,j 64,j 65,j 66,j 67,j 68,j 69,j 70,j 71,j 72,j 73,j 74,j 75,j 76,j 77,j 78,j 79,j 80,j 81,j 82,j 83,j 84,j 85,j 86,j 87,j 88,j 89,j 90,j 91,j 92,j 93,j 94,j 95,j 96,j 97,j 98,j 99,j 100,j 101,j 102,j 103,j 104,j 105,j 106,j 107,j 108,j 109,j 110,j 111,j 112,j 113,j 114,j 115,j 116,j 117,j 118,j 119,j 120,j 121,j 122,j 123,j 124,j 125,j 126,j 127,j 128,j 129,j 130,j 131,j 132,j 133,j 134,j 135,j 136,j 137,j 138,j 139,j 140,j 141,j 142,j 143,j 144,j 145,j 146,j 147,j 148,j 149,j 150,j 151,j 152,j 153,j 154,j 155,j 156,j 157,j 158,j 159,j 160,j 161,j 162,j 163,j 164,j 165,j 166,j 167,j 168,j 169,j 170,j 171,j 172,j 173,j 174,j 175,j 176,j 177,j 178,j 179,j 180,j 181,j 182,j 183,j 184,j 185,j 186,j 187,j 188,j 189,j 190,j 191,j 192,j 193,j 194],K⟩)∧KnS mb H5 K names k ss
def KnO (mb:Nat) (H5:Heap) (names:Kn) (ss:Value) (st:St):Prop:=∃K,(∃j:Nat→Value,st=⟨[j 0,j 1,j 2,j 3,j 4,j 5,j 6,j 7,j 8,j 9,j 10,pt mb,j 12,j 13,j 14,j 15,j 16,j 17,j 18,j 19,j 20,j 21,j 22,j 23,j 24,j 25,j 26,j 27,j 28,j 29,j 30,j 31,j 32,j 33,j 34,j 35,j 36,j 37,j 38,j 39,j 40,j 41,j 42,j 43,j 44,j 45,j 46,j 47,j 48,j 49,j 50,j 51,j 52,j 53,j 54,j 55,j 56,j 57,j 58,j 59,j 60,j 61,j 62,j 63,j 64,j 65,j 66,j 67,j 68,j 69,j 70,j 71,j 72,j 73,j 74,j 75,j 76,j 77,j 78,j 79,j 80,j 81,j 82,j 83,j 84,j 85,j 86,j 87,j 88,j 89,j 90,j 91,j 92,j 93,j 94,j 95,j 96,j 97,j 98,j 99,j 100,j 101,j 102,j 103,j 104,j 105,j 106,j 107,j 108,j 109,j 110,j 111,j 112,j 113,j 114,j 115,j 116,j 117,j 118,j 119,j 120,j 121,j 122,j 123,j 124,j 125,j 126,j 127,j 128,j 129,j 130,j 131,j 132,j 133,j 134,j 135,j 136,j 137,j 138,j 139,j 140,j 141,j 142,j 143,j 144,j 145,j 146,j 147,j 148,j 149,j 150,j 151,j 152,j 153,j 154,j 155,j 156,j 157,j 158,j 159,j 160,j 161,j 162,j 163,j 164,j 165,j 166,j 167,j 168,j 169,j 170,j 171,j 172,j 173,j 174,j 175,j 176,j 177,j 178,j 179,j 180,j 181,j 182,j 183,j 184,j 185,j 186,j 187,j 188,j 189,j 190,j 191,j 192,j 193,j 194],K⟩)∧KnS mb H5 K names names.length ss
def CmI (mb:Nat) (B:Heap) (R0:CR (List Stm)) (kn0:Kn) (known ss:Value) (T:Nat→Prop) (stms:List Stm) (rows:List (List Value)) (n:Nat) (st:St):Prop:=∃K x a,(∃j:Nat→Value,st=⟨[j 0,j 1,j 2,j 3,j 4,j 5,j 6,j 7,j 8,j 9,j 10,pt mb,j 12,pt B.length,.int .i64 (n:Int),j 15,j 16,j 17,j 18,j 19,j 20,j 21,j 22,j 23,j 24,j 25,j 26,j 27,j 28,j 29,j 30,j 31,j 32,j 33,j 34,j 35,j 36,j 37,j 38,j 39,j 40,j 41,j 42,j 43,j 44,j 45,j 46,j 47,j 48,j 49,j 50,j 51,j 52,j 53,j 54,j 55,j 56,j 57,j 58,j 59,j 60,j 61,j 62,j 63,j 64,j 65,j 66,j 67,j 68,j 69,j 70,j 71,j 72,j 73,j 74,j 75,j 76,j 77,j 78,j 79,j 80,j 81,j 82,j 83,j 84,j 85,j 86,j 87,j 88,j 89,j 90,j 91,j 92,j 93,j 94,j 95,j 96,j 97,j 98,j 99,j 100,j 101,j 102,j 103,j 104,j 105,j 106,j 107,j 108,j 109,j 110,j 111,j 112,j 113,j 114,j 115,j 116,j 117,j 118,j 119,j 120,j 121,j 122,j 123,j 124,j 125,j 126,j 127,j 128,j 129,j 130,j 131,j 132,j 133,j 134,j 135,j 136,j 137,j 138,j 139,j 140,j 141,j 142,j 143,j 144,j 145,j 146,j 147,j 148,j 149,j 150,j 151,j 152,j 153,j 154,j 155,j 156,j 157,j 158,j 159,j 160,j 161,j 162,j 163,j 164,j 165,j 166,j 167,j 168,j 169,j 170,j 171,j 172,j 173,j 174,j 175,j 176,j 177,j 178,j 179,j 180,j 181,j 182,j 183,j 184,j 185,j 186,j 187,j 188,j 189,j 190,j 191,j 192,j 193,j 194],K⟩)∧CkS mb B K R0 kn0 known ss T stms rows n x a
def CmO (mb:Nat) (B:Heap) (R0:CR (List Stm)) (kn0:Kn) (known ss:Value) (T:Nat→Prop) (stms:List Stm) (rows:List (List Value)) (st:St):Prop:=∃K x a n,(∃j:Nat→Value,st=⟨[j 0,j 1,j 2,j 3,j 4,j 5,j 6,j 7,j 8,j 9,j 10,pt mb,j 12,pt B.length,j 14,j 15,j 16,j 17,j 18,j 19,j 20,j 21,j 22,j 23,j 24,j 25,j 26,j 27,j 28,j 29,j 30,j 31,j 32,j 33,j 34,j 35,j 36,j 37,j 38,j 39,j 40,j 41,j 42,j 43,j 44,j 45,j 46,j 47,j 48,j 49,j 50,j 51,j 52,j 53,j 54,j 55,j 56,j 57,j 58,j 59,j 60,j 61,j 62,j 63,j 64,j 65,j 66,j 67,j 68,j 69,j 70,j 71,j 72,j 73,j 74,j 75,j 76,j 77,j 78,j 79,j 80,j 81,j 82,j 83,j 84,j 85,j 86,j 87,j 88,j 89,j 90,j 91,j 92,j 93,j 94,j 95,j 96,j 97,j 98,j 99,j 100,j 101,j 102,j 103,j 104,j 105,j 106,j 107,j 108,j 109,j 110,j 111,j 112,j 113,j 114,j 115,j 116,j 117,j 118,j 119,j 120,j 121,j 122,j 123,j 124,j 125,j 126,j 127,j 128,j 129,j 130,j 131,j 132,j 133,j 134,j 135,j 136,j 137,j 138,j 139,j 140,j 141,j 142,j 143,j 144,j 145,j 146,j 147,j 148,j 149,j 150,j 151,j 152,j 153,j 154,j 155,j 156,j 157,j 158,j 159,j 160,j 161,j 162,j 163,j 164,j 165,j 166,j 167,j 168,j 169,j 170,j 171,j 172,j 173,j 174,j 175,j 176,j 177,j 178,j 179,j 180,j 181,j 182,j 183,j 184,j 185,j 186,j 187,j 188,j 189,j 190,j 191,j 192,j 193,j 194],K⟩)∧CkS mb B K R0 kn0 known ss T stms rows n x a∧(x=0→n=stms.length)
theorem ydl (z0 z1 z2 z3 z4:Value) {row:List Value} (h:row.length=5):yp [z0,z1,z2,z3,z4] [(0,5,agg row)]=some row:=by
 match row,h with
 | [a,b,c,d,e],_=>rfl
set_option maxHeartbeats 16000000 in
theorem yhv (l:List UInt8) (names:Kn) (ns:Value) {h:Heap} (hns:Sl h ns 2 (names.map zw)) (hnl:names.length≤10000):∃v h',DF FF kg [str l,ns] h=some (v,h')∧(MdR h h' v (pg l names)∧Pre h h'):=by
 refine yb zil ?_
 by_cases hl:4096<l.length
 ·have c1:((4096:Int)<(l.length:Int))=True:=by simp;omega
  have hR:pg l names=.bad 2 0:=by unfold pg;rw [if_pos hl]
  simp only [bf,zb,yor,yos,zz,qt,zf,zu,zh,zh,c1,qt,pkA,pkB]
  rw [hR]
  exact ⟨⟨rfl,rfl,by omega⟩,Pre.refl h⟩
 have c1:((4096:Int)<(l.length:Int))=False:=by simp;omega
 obtain ⟨v1,H1,t1,t2,t3⟩:=zqu l h
 have htv:zc0 l=j6 l 0:=by unfold zc0;rw [if_neg (by omega)]
 rw [htv] at t2
 cases hsc:j6 l 0 with
 | bad c a=>
  rw [hsc] at t2
  have t2:v1=tup [.slice none 0 0,.int .i64 (c:Int),.int .i64 (a:Int)]:=t2
  subst t2
  have hc:=zpj hsc
  have c2:((c:Int) !=0)=true:=by rw [bne_iff_ne];omega
  have hR:pg l names=.bad c a:=by unfold pg;rw [if_neg hl,hsc]
  simp only [bf,zb,yor,yos,qt,zf,zu,zh,zh,c1,t1,c2,qt,pkA,pkB]
  rw [hR]
  exact zwn t3 c a hc
 | ok m=>
  rw [hsc] at t2
  obtain ⟨s,rfl,own1⟩:=t2
  obtain ⟨hok,hml⟩:=zw4 hsc
  have c2:((0:Int) !=0)=false:=rfl
  obtain ⟨sx,sy,sz,rfl⟩:=own1.slice
  obtain ⟨P,hP⟩:∃P:RP,P={ r:=H1.length+1,c:=H1.length,en:=l.length,ws:=nils,cs:=.slice sx sy sz,L:=m,ne:=by omega,wr:=by simp [blk,nils],wc:=by simp [blk,nils],cr:=fun h=>by have:=(own1.lt h).2;omega,cc:=fun h=>by have:=(own1.lt h).2;omega,ok:=hok,len:=by omega}:=⟨_,rfl⟩
  have pr:P.r=H1.length+1:=by rw [hP]
  have pc:P.c=H1.length:=by rw [hP]
  have pe:P.en=l.length:=by rw [hP]
  have pcs:P.cs=.slice sx sy sz:=by rw [hP]
  have pL:P.L=m:=by rw [hP]
  obtain ⟨H4,hH4⟩:∃H4,H4=H1++[AObj.cells [.slice sx sy sz,.int .i64 0] 0 false,.cells [pt H1.length,.int .i64 0,.int .i64 0,.int .i64 (l.length:Int),.int .i64 0] 0 false,.cells [.slice none 0 0,.slice none 0 0,.slice none 0 0] 0 false]:=⟨_,rfl⟩
  obtain ⟨mb,hmb⟩:∃mb,mb=H1.length+2:=⟨_,rfl⟩
  have l4:H4.length=mb+1:=by rw [hH4,hmb];simp
  have p4:Pre h H4:=by rw [hH4];exact t3.more _
  have e4:Dd P H4 0 0 0 0:=by
   rw [hH4]
   refine ⟨by rw [pr,pc,pe];simp,by rw [pc,pcs];simp,by rw [pcs,pL];exact own1.sl.more _,Nat.zero_le _⟩
  have hm4:H4[mb]?=some (.cells [nils,nils,nils] 0 false):=by rw [hH4,hmb];simp [nils]
  have hmr:mb≠P.r:=by omega
  have hmc:mb≠P.c:=by omega
  have hcm:blk P.cs≠some mb:=fun h=>by rw [pcs] at h;have:=(own1.lt h).2;omega
  obtain ⟨R,hRd⟩:∃R,R=zku l.length m:=⟨_,rfl⟩
  have hlens:∀K,lenO K ns=some (.int .i64 (names.length:Int),K):=fun K=>by rw [hns.len,ypd]
  have toPre:∀K,M3 P mb H4 K→Pre h K:=fun K k=>Pre.of (by have:=p4.le;have:=k.le;omega) fun b o ho=>by
   have hlt:=(yoq.1 ho).1
   have h2:=t3.le
   exact k.keep b o (by rw [p4.get hlt];exact ho) (by omega) (by omega) (by omega)
  have y0:(((0:Nat):Int)==0)=true:=rfl
  have s0:DpS P mb H4 R (P.L.length - 0+1) H4:=.inl ⟨0,0,nils,fun _=>False,[],[],rfl,e4,hm4,Own.nil _ _ _,trivial,fun z hz=>hz.elim,(fun b hb=>by simp [blk,nils] at hb),M3.refl _ _ _,Nat.zero_le _,(by simp),by
   rw [hRd,←pe,←pL,List.drop_zero];unfold zku;cases jw P.en P.L.length P.L <;> rfl⟩
  have hf1:yp [.slice none 0 0,.int .i64 0] [(0,1,.slice sx sy sz)]=some [.slice sx sy sz,.int .i64 0]:=by rw [zk6 _ (by simp),po];rfl
  have hf2:yp [.pointer none,.int .i64 0,.int .i64 0,.int .i64 0,.int .i64 0] [(0,1,pt H1.length),(3,1,.int .i64 (l.length:Int))]=some [pt H1.length,.int .i64 0,.int .i64 0,.int .i64 (l.length:Int),.int .i64 0]:=by
   rw [jk _ (by simp),zao _ (by simp),po];rfl
  simp only [bf,zb,yor,yos,zg,ze,zf,zu,zh,zh,c1,t1,c2,hf1,hf2,zg,ze,←hH4,pkA,pkB]
  rw [show H1.length+2=mb from hmb.symm,←pr,←pcs]
  refine zj5 0 (DpI P mb H4 ns R) (DpO P mb H4 ns R) ?_ (P.L.length - 0+1) _ ⟨H4,junk rfl,s0⟩ ?_
  ·rintro k0 st ⟨K,⟨j,rfl⟩,⟨k,a0,ss,T,acc,rows,rfl,eK,hm,own,stp,hT,hb,m4,hacc,hgs,hR⟩ | ⟨k,ec,ea,x,y,z,rows,rfl,eK,hc0,hR,hm,m4,own,hb,hrl⟩⟩
   ·by_cases hk:k<P.L.length
    ·obtain ⟨row,K1,x,y,z,K2,hr5,q1,rd1,ap,w1,m',hlt,pas⟩:=yf5 e4 l4 hmr hmc hcm hk eK hm own stp hT hb m4 hacc hgs hR
     have c3:((k:Int)<(P.L.length:Int))=True:=by simp;omega
     have rm0:Heap.read1 K ⟨mb,2,some 0⟩=some ss:=zr hm
     obtain ⟨ax,ay,az,rfl⟩:=own.slice
     have a1:zbd K1 (.pointer (some ⟨mb,2,some 0⟩)) (.slice ax ay az)=some (undef,K1):=fu rd1 rfl
     simp only [zi,zb,yor,slc,zak,eK.r0,y0,eK.c0,eK.cl,c3,rm0,q1,a1,ydl _ _ _ _ _ hr5,ap,w1,pkA,pkB]
     exact ⟨m',hlt,_,junk rfl,pas⟩
    ·have c3:((k:Int)<(P.L.length:Int))=False:=by simp;omega
     simp only [zi,zb,x8,eK.r0,y0,eK.c0,eK.cl,c3,x8,pkA,pkB]
     have hk':k=P.L.length:=by have:=eK.le;omega
     rw [yo5 (by omega)] at hR
     have hR':R=.ok acc []:=by
      cases hq:P.L.length with
      | zero=>rw [hq] at hR;simpa [jw] using hR
      | succ q=>rw [hq] at hR;simpa [jw] using hR
     exact ⟨K,junk rfl,k,0,a0,ss,rows,⟨eK,hm,own,hb,m4,by rw [stp.len];have:=P.len;omega,fun _=>⟨T,acc,hR',stp,hT,hgs,by have:=P.len;omega⟩,fun h=>absurd rfl h⟩⟩
   ·have c3:(((ec:Nat):Int)==0)=false:=by rw [beq_eq_false_iff_ne];omega
    simp only [zi,zb,x8,eK.r0,c3,x8,pkA,pkB]
    exact ⟨K,junk rfl,k,ec,ea,.slice x y z,rows,⟨eK,hm,own,hb,m4,hrl,fun h=>absurd h hc0,fun _=>hR⟩⟩
  rintro st ⟨K,⟨j,rfl⟩,k,x,a,ss,rows,E⟩
  by_cases x0:x=0
  case neg=>
   have cx:((x:Int) !=0)=true:=by rw [bne_iff_ne];omega
   simp only [zb,qt,E.rd.r0,cx,qt,pkA,pkB]
   rw [znb hl hsc,←hRd,E.bad x0]
   exact zwn (toPre K E.m3) x a x0
  subst x0
  have y1:(((0:Nat):Int) !=0)=false:=rfl
  obtain ⟨T,acc,hR,st,hT,hg,hl8⟩:=E.ok rfl
  have lm:=(yoq.1 E.mo).1
  have pK:=toPre K E.m3
  have lhm:h.length≤mb:=by have:=t3.le;omega
  have pN:∀K6 k6,KnS mb K K6 names k6 ss→Pre h K6:=fun K6 k6 e=>Pre.of (by have:=pK.le;have:=e.kp.2;omega) fun b o ho=>by
   have hlt:=(yoq.1 ho).1
   exact e.kp.1 b o (by rw [pK.get hlt];exact ho) (by omega)
  simp only [zb,E.rd.r0,y1,pkA,pkB]
  refine jv 2 names.length (KnI mb K names ns ss) (KnO mb K names ss) ?_ ?_ _ ⟨K,junk rfl,⟨[],nils,_,_,_,rfl,E.mo,Own.nil _ _ _,fun b hb=>by simp [blk,nils] at hb,by simp,yoz _⟩,⟨fun b o ho _=>ho,yoz _⟩⟩ ?_
  ·rintro n st hn ⟨K6,⟨j,rfl⟩,e⟩
   obtain ⟨b',o,v,a1,a2⟩:=(hns.pre (pN K6 n e)).atH (k:=n) (by simpa using hn)
   rw [List.getElem_map] at a2
   have a3:Heap.read1 K6 ⟨b',o,some v⟩=some (str names[n].1):=bt a2 (by simp [zw])
   have h1:((n:Int)<(names.length:Int))=True:=by simp;omega
   obtain ⟨x,y,z,i,rm,fq,⟨hi,e'⟩ | ⟨hi,x',y',z',K2,K3,ap,w1,e'⟩⟩:=yf3 hn hnl lm e
   ·simp only [zb,zc,h1,hlens,a1,a3,rm,fq,hi,zs (k:=n) (by omega),pkA,pkB]
    exact ⟨_,junk rfl,e'⟩
   ·simp only [zb,yor,slc,zc,h1,hlens,a1,a2,a3,rm,fq,hi,zsv,ap,w1,zs (k:=n) (by omega),pkA,pkB]
    exact ⟨_,junk rfl,e'⟩
  ·rintro st ⟨K6,⟨j,rfl⟩,e⟩
   have h1:((names.length:Int)<(names.length:Int))=False:=by simp
   simp only [zb,x8,zq,h1,hlens,x8,pkA]
   exact ⟨K6,junk rfl,e⟩
  rintro st ⟨K6,⟨j,rfl⟩,e6⟩
  have p6:=pN K6 _ e6
  obtain ⟨⟨kn,ks,kx,ky,kz,rfl,hm6,own6,hb6,hkn6,hkl6⟩,kp6,kl6⟩:=e6
  rw [yp5,fg] at hkn6
  have lm6:=(yoq.1 hm6).1
  obtain ⟨K7,hK7⟩:∃K7,K7=K6++[AObj.cells [.slice none 0 0,.slice none 0 0,.int .i64 0,.int .i64 0] 0 false]:=⟨_,rfl⟩
  have l7:K7.length=K6.length+1:=by rw [hK7];simp
  have q7:K7[K6.length]?=some (.cells [.slice none 0 0,.slice none 0 0,.int .i64 0,.int .i64 0] 0 false):=by rw [hK7];simp
  have g7:∀(z:Nat) (o:AObj),K6[z]?=some o→K7[z]?=some o:=fun z o ho=>by rw [hK7];exact zm _ ho
  obtain ⟨s8,K8,m1,m2,m3,m4,m5⟩:=(Own.nil [] K7 2).more_rows (bytes:=24) (s2:=.slice kx ky kz) (rows2:=kn.map zw) (by rw [hK7];exact own6.sl.more _) (by simp only [List.length_nil,ypd];unfold wy;omega)
  obtain ⟨ua,ub,uc,rfl⟩:=m2.slice
  have q8:=m4 _ _ q7 (by simp [blk])
  have bu:∀b,blk (.slice ua ub uc)=some b→K6.length<b:=fun b hb=>by
   rcases m5 with m5 | ⟨jj,m5,m6⟩
   ·rw [m5] at hb;simp [blk] at hb
   ·rw [m5] at hb;cases hb;omega
  obtain ⟨K9,hK9⟩:∃K9,K9=K8.set K6.length (.cells [.slice ua ub uc,.slice none 0 0,.int .i64 0,.int .i64 0] 0 false):=⟨_,rfl⟩
  have w9:Heap.write1 K8 ⟨K6.length,0,some 0⟩ (.slice ua ub uc)=some K9:=by rw [hK9,jo q8 (by simp)];rfl
  have g9:∀(z:Nat) (o:AObj),K6[z]?=some o→K9[z]?=some o:=fun z o ho=>by
   have hlt:=(yoq.1 ho).1
   rw [hK9,you (by omega)];exact m4 _ _ (g7 _ _ ho) (by simp [blk])
  have l8:=(yoq.1 q8).1
  obtain ⟨R0,hR0⟩:∃R0:CR (List Stm),R0=chkM kn 0 acc:=⟨_,rfl⟩
  have hPM:pg l names=mdR kn R0:=by rw [znb hl hsc,←hRd,hR,hkn6,hR0];rfl
  have hT6:∀z,T z→z<K6.length∧z≠mb:=fun z hz=>by have:=hT z hz;exact ⟨by omega,by omega⟩
  have sT6:StsA K6 T rows acc:=st.keep fun b o hb ho=>kp6 b o ho (by have:=hT b hb;omega)
  have L0:CkS mb K6 K9 R0 kn (.slice kx ky kz) ss T acc rows 0 0 0:=⟨fun _=>⟨rfl,[],.slice ua ub uc,.slice none 0 0,[],by rw [hK9,yox l8],g9 _ _ hm6,by
   rw [ypl];exact m2.keep fun b hb o ho=>by rw [hK9,you (by have:=bu b hb;omega)];exact ho,Own.nil _ _ _,sT6.keep fun b o _ ho=>g9 b o ho,rfl,rfl,by simp,by rw [hR0];simp only [ypl,List.length_nil,List.drop_zero,List.nil_append];cases chkM kn 0 acc <;> rfl,bu,fun b hb=>by simp [blk] at hb,fun b _=>by simp [blk]⟩,fun hh=>absurd rfl hh,fun b o ho _ _=>g9 b o ho,by rw [hK9,yo3];exact l8⟩
  have ownS:Own [] K6 ss 5 rows:=E.own.keep fun b hb o ho=>kp6 b o ho (by have:=E.lo b hb;omega)
  have keepS:∀J n x a,CkS mb K6 J R0 kn (.slice kx ky kz) ss T acc rows n x a→Sl J ss 5 rows:=fun J n x a e=>ownS.sl.keep fun b hb o ho=>e.keep b o ho (by have:=E.lo b hb;omega) (fun h=>(hT b h).2.2 hb)
  have rm6:∀j,Heap.read1 K7 ⟨mb,j,some 0⟩=([.slice kx ky kz,nils,ss]:List Value)[j]?:=fun j=>zr (g7 _ _ hm6)
  have rq7:∀j,Heap.read1 K7 ⟨K6.length,j,some 0⟩=([.slice none 0 0,.slice none 0 0,.int .i64 0,.int .i64 0]:List Value)[j]?:=fun j=>zr q7
  simp only [zb,yor,zg,ze,zg,ze,←hK7,rm6,rq7,m1,w9,pkA,pkB]
  refine jv 4 acc.length (CmI mb K6 R0 kn (.slice kx ky kz) ss T acc rows) (CmO mb K6 R0 kn (.slice kx ky kz) ss T acc rows) ?_ ?_ _ ⟨K9,0,0,junk rfl,L0⟩ ?_
  ·rintro n st' hn ⟨K,x,a,⟨j,rfl⟩,e⟩
   have lS:lenO K ss=some (.int .i64 (acc.length:Int),K):=by rw [(keepS K n x a e).len,sT6.len]
   have h1:((n:Int)<(acc.length:Int))=True:=by simp;omega
   by_cases x0:x=0
   ·subst x0
    obtain ⟨ha0,lt0,ks0,ls0,l0,cq,cm,_⟩:=e.ok rfl
    subst ha0
    have rmK:∀j,Heap.read1 K ⟨mb,j,some 0⟩=([.slice kx ky kz,ls0,ss]:List Value)[j]?:=fun j=>zr cm
    have rqK:∀j,Heap.read1 K ⟨K6.length,j,some 0⟩=([ks0,.slice none 0 0,.int .i64 0,.int .i64 0]:List Value)[j]?:=fun j=>zr cq
    obtain ⟨b',o,v,a1,a2⟩:=(keepS K n 0 0 e).atH (k:=n) (by rw [sT6.len];exact hn)
    have hrn:rows[n]?=some (rows[n]'(by rw [sT6.len];exact hn)):=yow _
    cases hs:acc[n] with
    | lets rc gs=>
     have hmem:Stm.lets rc gs∈acc:=hs▸List.getElem_mem hn
     obtain ⟨s,K1,x1,aa,hr,q1,e'⟩:=yks e hn hs lm6 hT6 (hg rc gs hmem) (fun h0=>by have:=zqc (hRd▸hR:zku l.length m=.ok acc []) _ hmem;simp [Stm.cnt,h0] at this) (by omega)
     rw [hr] at hrn
     rw [←yqc hrn] at a2
     have rx:∀j,Heap.read1 (K++[AObj.cells [s,.bool rc,str [],str [],nilP] 0 false]) ⟨K.length,j,some 0⟩=([s,.bool rc,str [],str [],nilP]:List Value)[j]?:=fun j=>zr (by simp)
     simp only [zi,zb,yor,zc,yf,rmK,rqK,lS,h1,a1,a2,rx,q1,zs (k:=n) (by omega),pkA,pkB]
     exact ⟨K1,x1,aa,junk rfl,e'⟩
    | chk k x as_=>
     obtain ⟨b,row,K1,hrow,hr,q1,rw1,hc⟩:=ynf e hn hs lm6 hT6 (by omega)
     rw [hr] at hrn
     rw [←yqc hrn,hrow] at a2
     rw [hrow] at q1 rw1
     have rx:∀j,Heap.read1 (K++[AObj.cells [.slice none 0 0,.bool false,str (ckS k),str as_,pt b] 0 false]) ⟨K.length,j,some 0⟩=([.slice none 0 0,.bool false,str (ckS k),str as_,pt b]:List Value)[j]?:=fun j=>zr (by simp)
     have rx1:∀j,Heap.read1 K1 ⟨K.length,j,some 0⟩=([.slice none 0 0,.bool false,str (ckS k),str as_,pt b]:List Value)[j]?:=fun j=>zr rw1
     have ck0:(ckS k==[])=false:=by cases k <;> rfl
     rcases hc with ⟨c,a,hc0,⟨v1,v2,cq1⟩,e'⟩ | hc
     ·have rq1:∀j,Heap.read1 K1 ⟨K6.length,j,some 0⟩=([v1,v2,.int .i64 (c:Int),.int .i64 (a:Int)]:List Value)[j]?:=fun j=>zr cq1
      have cx:((c:Int)==0)=false:=by rw [beq_eq_false_iff_ne];omega
      simp only [zi,zb,yor,zc,yf,rmK,rqK,lS,h1,a1,a2,rx,ck0,q1,rq1,cx,zs (k:=n) (by omega),pkA,pkB]
      exact ⟨K1,c,a,junk rfl,e'⟩
     ·obtain ⟨kk,w,o,l,r,t,ks,hb,hq,hno,hyes⟩:=hc
      have rq1:∀j,Heap.read1 K1 ⟨K6.length,j,some 0⟩=([ks,.slice none 0 0,.int .i64 0,.int .i64 0]:List Value)[j]?:=fun j=>zr hq
      have rb1:∀j,Heap.read1 K1 ⟨b,j,some 0⟩=(xe kk w x.pl o l r t)[j]?:=fun j=>zr hb
      have ckE:(ckS k !=[101,109,112,116,121])= !(k== .empty):=by cases k <;> rfl
      cases t
      ·simp only [zi,zb,yor,zc,yf,rmK,rqK,lS,h1,a1,a2,rx,ck0,q1,rx1,rq1,rb1,wx,zs (k:=n) (by omega),pkA,pkB]
       exact ⟨K1,0,0,junk rfl,hno rfl⟩
      ·cases hk:k==Ck.empty
       ·have ff:=zaq (a:=0) hq 41 x.pl
        simp only [yov] at ff
        simp only [zi,zb,yor,zc,yf,zcg,rmK,rqK,lS,h1,a1,a2,rx,ck0,q1,rx1,rq1,rb1,wx,ko,ckE,hk,ff,zs (k:=n) (by omega),pkA,pkB]
        exact ⟨_,41,x.pl,junk rfl,hyes (by rw [bne,hk];rfl)⟩
       ·simp only [zi,zb,yor,zc,yf,zcg,rmK,rqK,lS,h1,a1,a2,rx,ck0,q1,rx1,rq1,rb1,wx,ckE,hk,zs (k:=n) (by omega),pkA,pkB]
        exact ⟨K1,0,0,junk rfl,hno (by rw [bne,hk];rfl)⟩
   ·obtain ⟨_,⟨v1,v2,cq⟩,ls,cm⟩:=e.bad x0
    have rmK:∀j,Heap.read1 K ⟨mb,j,some 0⟩=([.slice kx ky kz,ls,ss]:List Value)[j]?:=fun j=>zr cm
    have rqK:∀j,Heap.read1 K ⟨K6.length,j,some 0⟩=([v1,v2,.int .i64 (x:Int),.int .i64 (a:Int)]:List Value)[j]?:=fun j=>zr cq
    have cx:((x:Int)==0)=false:=by rw [beq_eq_false_iff_ne];omega
    simp only [zi,zb,x8,zq,rmK,rqK,lS,h1,cx,x8,pkA,pkB]
    exact ⟨K,x,a,n,junk rfl,e,fun h=>absurd h x0⟩
  ·rintro st' ⟨K,x,a,⟨j,rfl⟩,e⟩
   have lS:lenO K ss=some (.int .i64 (acc.length:Int),K):=by rw [(keepS K _ x a e).len,sT6.len]
   have h1:((acc.length:Int)<(acc.length:Int))=False:=by simp
   obtain ⟨ls,cm⟩:∃ls,K[mb]?=some (.cells [.slice kx ky kz,ls,ss] 0 false):=by
    by_cases x0:x=0
    ·obtain ⟨_,lt,ks,ls,l',_,cm,_⟩:=e.ok x0;exact ⟨ls,cm⟩
    ·exact (e.bad x0).2.2
   have rmK:∀j,Heap.read1 K ⟨mb,j,some 0⟩=([.slice kx ky kz,ls,ss]:List Value)[j]?:=fun j=>zr cm
   simp only [zi,zb,x8,zq,rmK,lS,h1,x8,pkA,pkB]
   exact ⟨K,x,a,_,junk rfl,e,fun _=>rfl⟩
  ·rintro st' ⟨K,x,a,n,⟨j,rfl⟩,e,hn⟩
   have pJ:Pre h K:=Pre.of (by have:=p6.le;have:=e.le;omega) fun b o ho=>by
    have hlt:=(yoq.1 ho).1
    exact e.keep b o (by rw [p6.get hlt];exact ho) (by omega) (fun hh=>by have:=hT b hh;omega)
   by_cases x0:x=0
   ·subst x0
    obtain rfl:=hn rfl
    obtain ⟨_,lt,ks',ls,l',cq,cm,ok,ol,sts,ll,hlt,hl64,hRR,kb,lb,kl⟩:=e.ok rfl
    rw [yp5,chkM] at hRR
    simp only [ypl] at hRR
    rw [yp5,ypl] at sts
    have rqK:∀j,Heap.read1 K ⟨K6.length,j,some 0⟩=([ks',.slice none 0 0,.int .i64 0,.int .i64 0]:List Value)[j]?:=fun j=>zr cq
    have le:=e.le
    simp only [zb,qt,yo7,rqK,qt,pkA,pkB]
    rw [zfm h rfl,hPM,hRR]
    refine ⟨⟨mb,rfl,⟨⟨_,ls,ss,rows,T,cm,own6.sl.keep fun b hb o ho=>e.keep b o ho (by have:=hb6 b hb;omega) (fun hh=>by have:=hT b hh;have:=hb6 b hb;omega),by rw [←hlt];exact ol.sl,keepS K _ _ _ e,sts,fun z hz=> ?_,fun b hb=> ?_,fun b hb=> ?_,fun b hb=> ?_⟩,?_,?_,?_,?_⟩⟩,pJ⟩
    ·have:=hT z hz;exact ⟨by omega,by omega⟩
    ·have:=hb6 b hb;have:=(own6.lt hb).2;exact ⟨by omega,by omega⟩
    ·have:=lb b hb;have:=(ol.lt hb).2;exact ⟨by omega,by omega⟩
    ·have:=E.lo b hb;have:=(ownS.lt hb).2;exact ⟨by omega,by omega⟩
    ·exact ⟨by omega,by omega⟩
    ·show l'.length≤8193
     omega
    ·show kn.length≤10000
     omega
    ·show (zbz l').length≤64
     rw [←hlt];exact hl64
   ·obtain ⟨hb0,⟨v1,v2,cq⟩,ls,cm⟩:=e.bad x0
    have rqK:∀j,Heap.read1 K ⟨K6.length,j,some 0⟩=([v1,v2,.int .i64 (x:Int),.int .i64 (a:Int)]:List Value)[j]?:=fun j=>zr cq
    have cx:((x:Int) !=0)=true:=by rw [bne_iff_ne];omega
    simp only [zb,qt,rqK,cx,qt,pkA,pkB]
    rw [hPM,hb0]
    exact zwn pJ x a x0
theorem ykt (h:Heap) (neg:Bool) (a b:Bys) (s t:Bool):zl5 h neg [.str,.bool] (agg [str a,.bool s]) (agg [str b,.bool t])=some (.bool ((a==b&&s==t) !=neg),h):=by
 refine zlv h rfl rfl ?_
 rw [zbs,zxz]
 cases h1:a==b
 ·simp
 ·simp only [yp2]
  rw [zbs]
  simp only [ve]
  cases h2:s==t <;> simp [zbs]
def DeI (h:Heap) (a b:Value) (k:Nat) (st:St):Prop:=∃j:Nat→Value,st=⟨[a,b,j 2,j 3,j 4,.int .i64 (k:Int),j 6,j 7,j 8,j 9,j 10,j 11,j 12,j 13,j 14,j 15,j 16,j 17,j 18,j 19,j 20,j 21,j 22,j 23,j 24,j 25],h⟩
theorem zwu {h:Heap} {a b:Value} {xs:Kn} (ha:Sl h a 2 (xs.map zw)) (hb:Sl h b 2 (xs.map zw)) (hl:xs.length<4611686018427387904):DF FF be [a,b] h=some (.bool true,h):=by
 refine ye zih ?_
 have la:∀H,lenO H a=some (.int .i64 (xs.length:Int),H):=fun H=>by rw [ha.len,ypd]
 have lb:∀H,lenO H b=some (.int .i64 (xs.length:Int),H):=fun H=>by rw [hb.len,ypd]
 have c0:((xs.length:Int) !=(xs.length:Int))=false:=by simp
 simp only [zc8,zb,yor,yos,la,lb,c0,pkA,pkB]
 refine gg xs.length (DeI h a b) ?_ ?_ _ (junk rfl)
 ·rintro k st hk ⟨j,rfl⟩
  obtain ⟨b1,o1,v1,p1,p2⟩:=ha.atH (k:=k) (by simpa using hk)
  obtain ⟨b2,o2,v2,q1,q2⟩:=hb.atH (k:=k) (by simpa using hk)
  have p2:Heap.read h ⟨b1,o1,some v1⟩ 2=some [str xs[k].1,.bool xs[k].2]:=by rw [p2];simp [zw]
  have q2:Heap.read h ⟨b2,o2,some v2⟩ 2=some [str xs[k].1,.bool xs[k].2]:=by rw [q2];simp [zw]
  have c1:((k:Int)<(xs.length:Int))=True:=by simp;omega
  have eq:zl5 h true [.str,.bool] (agg [str xs[k].1,.bool xs[k].2]) (agg [str xs[k].1,.bool xs[k].2])=some (.bool false,h):=by rw [ykt];simp
  simp only [zb,zqy,zc,la,c1,p1,q1,p2,q2,eq,zs (k:=k) (by omega),pkA,pkB]
  exact junk rfl
 ·rintro st ⟨j,rfl⟩
  have c1:((xs.length:Int)<(xs.length:Int))=False:=by simp
  simp only [zb,zq,la,c1,pkA]
theorem yf8 {H:Heap} {s:Value} {c:Nat} {rows:List (List Value)} (e:Sl H s c rows):∃a n c',s=.slice a n c':=by
 obtain ⟨⟨rfl,_⟩ | ⟨b,o,v,rfl,_⟩,_⟩:=e <;> exact ⟨_,_,_,rfl⟩
theorem yl2 {H:Heap} {s:Value} {c bytes:Nat} {rows:List (List Value)} (hs:Sl H s c rows) (hroom:rows.length*bytes≤wy):∃s' K,wu (H++[.cells [] 0 false]) c bytes (.slice (some ⟨H.length,0,some 0⟩) 0 c) (za5 (H++[.cells [] 0 false]) c s)=some (s',K)∧Own H K s' c rows∧Pre H K:=by
 have e:Own H (H++[AObj.cells [] 0 false]) (.slice (some ⟨H.length,0,some 0⟩) 0 c) c []:=⟨.inr ⟨H.length,0,yoz _,rfl,by simp⟩,by simp⟩
 obtain ⟨s',K,q,o,p,_⟩:=e.append ((Pre.refl H).more _) (rows':=rows) (bytes:=bytes) rfl hs.2 (by simpa using hroom)
 rw [hs.src]
 exact ⟨s',K,q,o,p⟩
theorem Own.front {h H:Heap} {s:Value} {c:Nat} {rows more:List (List Value)} (e:Own h H s c (rows++more)) (hm:more≠[]):∃b ver,s=.slice (some ⟨b,0,some ver⟩) (rows.length+more.length) c∧h.length≤b∧b<H.length∧Sl H (.slice (some ⟨b,0,some ver⟩) rows.length c) c rows:=by
 rcases e with ⟨⟨rfl,hr⟩ | ⟨b,ver,hb,rfl,ho⟩,hc⟩
 ·exact absurd (List.append_eq_nil_iff.1 hr).2 hm
 ·refine ⟨b,ver,by rw [yo8],hb,(yoq.1 ho).1,.inr ⟨b,0,ver,rfl,?_⟩,fun r hr=>hc r (List.mem_append_left _ hr)⟩
  have hc1:∀r∈rows,r.length=c:=fun r hr=>hc r (List.mem_append_left _ hr)
  unfold Heap.read
  simp only [ho]
  rw [List.flatten_append]
  have hl:=k8 rows c hc1
  rw [if_pos ⟨trivial,by rw [yo8,hl];omega⟩,List.drop_zero,List.take_left' hl]
theorem zpe {text:Bys} {names:Kn} {ns:Value} {h:Heap} (hns:Sl h ns 2 (names.map zw)) (hnl:names.length≤10000):
  (∃c a,pg text names=.bad c a∧c≠0∧DF FF kg [str text,ns] h=some (tup [nilP,.int .i64 (c:Int),.int .i64 (a:Int)],h))∨
  ∃md mb h',pg text names=.ok md∧DF FF kg [str text,ns] h=some (tup [pt mb,.int .i64 0,.int .i64 0],h')∧MdD h' (fun z=>h.length≤z∧z<h'.length) mb md∧Pre h h'∧MdOk md:=by
 obtain ⟨v,h',q,r,p⟩:=yhv text names ns hns hnl
 cases hR:pg text names with
 | bad c a=>
  rw [hR] at r
  obtain ⟨rfl,rfl,hc⟩:=r
  exact .inl ⟨c,a,rfl,hc,q⟩
 | ok md=>
  have ok:=(zqr hR).1
  rw [hR] at r
  obtain ⟨mb,rfl,M⟩:=r
  exact .inr ⟨md,mb,h',rfl,q,M,p,ok⟩
theorem MdD.keep {K K':Heap} {U:Nat→Prop} {mb:Nat} {md:Md} (M:MdD K U mb md) (k:∀b o,U b→K[b]?=some o→K'[b]?=some o):MdD K' U mb md:=by
 obtain ⟨⟨ks,ls,ss,rows,T,h1,h2,h3,h4,h5,t1,t2,t3,t4⟩,hm,hl⟩:=M
 exact ⟨⟨ks,ls,ss,rows,T,k mb _ hm h1,h2.keep fun b hb o=>k b o (t2 b hb),h3.keep fun b hb o=>k b o (t3 b hb),h4.keep fun b hb o=>k b o (t4 b hb),h5.keep fun b o hb=>k b o (t1 b hb),t1,t2,t3,t4⟩,hm,hl⟩
/-- All but one object yoi it was. -/
structure ZgK (H K:Heap) (pb:Nat):Prop where
 len:K.length=H.length
 keep:∀b o,b≠pb→H[b]?=some o→K[b]?=some o
def ZgI (h H:Heap) (v6 v9 gs:Value) (pb n k:Nat) (st:St):Prop:=∃K rows,(∃j:Nat→Value,st=⟨[j 0,j 1,j 2,j 3,j 4,gs,v6,j 7,j 8,v9,j 10,j 11,.int .i64 (k:Int),j 13,j 14,j 15,j 16,j 17,j 18,j 19,j 20,j 21,j 22,j 23,j 24,j 25,j 26,j 27,j 28,j 29,j 30,j 31,j 32,j 33,j 34,j 35,j 36,j 37,j 38,j 39,j 40,j 41,j 42,j 43,j 44,j 45,j 46,j 47,j 48,j 49,j 50,j 51,j 52,j 53,j 54,j 55,j 56,j 57,j 58,j 59,j 60,j 61,j 62,j 63,j 64,j 65,j 66,j 67,j 68,j 69,j 70,j 71,j 72,j 73,j 74,j 75,j 76,j 77,j 78,j 79,j 80,j 81,j 82,j 83,j 84,j 85,j 86,j 87,j 88,j 89,j 90,j 91,j 92,j 93,j 94,j 95,j 96,j 97,j 98,j 99,j 100,j 101,j 102,j 103,j 104,j 105,j 106,j 107,j 108,j 109,j 110,j 111,j 112,j 113,j 114,j 115,j 116,j 117,j 118,j 119,j 120,j 121,j 122,j 123,j 124,j 125,j 126,j 127,j 128,j 129,j 130,j 131,j 132,j 133,j 134,j 135,j 136,j 137,j 138,j 139,j 140,j 141,j 142,j 143,j 144,j 145,j 146,j 147,j 148,j 149,j 150],K⟩)∧Own h K gs 2 rows∧rows.length=n∧ZgK H K pb
def ZgO (h H:Heap) (v6 v9 gs:Value) (pb n:Nat) (st:St):Prop:=∃K,(∃j:Nat→Value,st=⟨[j 0,j 1,j 2,j 3,j 4,j 5,v6,j 7,j 8,v9,j 10,j 11,j 12,j 13,j 14,j 15,j 16,j 17,j 18,j 19,j 20,j 21,j 22,j 23,j 24,j 25,j 26,j 27,j 28,j 29,j 30,j 31,j 32,j 33,j 34,j 35,j 36,j 37,j 38,j 39,j 40,j 41,j 42,j 43,j 44,j 45,j 46,j 47,j 48,j 49,j 50,j 51,j 52,j 53,j 54,j 55,j 56,j 57,j 58,j 59,j 60,j 61,j 62,j 63,j 64,j 65,j 66,j 67,j 68,j 69,j 70,j 71,j 72,j 73,j 74,j 75,j 76,j 77,j 78,j 79,j 80,j 81,j 82,j 83,j 84,j 85,j 86,j 87,j 88,j 89,j 90,j 91,j 92,j 93,j 94,j 95,j 96,j 97,j 98,j 99,j 100,j 101,j 102,j 103,j 104,j 105,j 106,j 107,j 108,j 109,j 110,j 111,j 112,j 113,j 114,j 115,j 116,j 117,j 118,j 119,j 120,j 121,j 122,j 123,j 124,j 125,j 126,j 127,j 128,j 129,j 130,j 131,j 132,j 133,j 134,j 135,j 136,j 137,j 138,j 139,j 140,j 141,j 142,j 143,j 144,j 145,j 146,j 147,j 148,j 149,j 150],K⟩)∧ZgK H K pb
theorem ye6 {h H K:Heap} {gs:Value} {pb n k:Nat} {rows:List (List Value)} (hb:blk gs=some pb) (own:Own h K gs 2 rows) (hn:rows.length=n) (e:ZgK H K pb) (hk:k<n):
  ∃o v K',(∀H',rowO H' 2 gs (.int .i64 (k:Int))=some (.pointer (some ⟨pb,o,some v⟩),H'))∧Heap.write K ⟨pb,o,some v⟩ [str [],.bool false]=some K'∧∃rows',Own h K' gs 2 rows'∧rows'.length=n∧ZgK H K' pb:=by
 obtain ⟨b,ver,K',p1,p2,p3,p4,p5,p6,-⟩:=own.putW (k:=k) (by omega) (row:=[str [],.bool false]) rfl
 rw [hb] at p4
 cases p4
 have p2:=p2 []
 rw [ypl,ypl] at p2
 exact ⟨_,_,K',p1,p2,_,p3,by rw [yo3,hn],by rw [p5,e.len],fun b o h1 h2=>p6 b o h1 (e.keep b o h1 h2)⟩
def CgI (K0:Heap) (v6:Value) (db:Nat) (l:List Stm) (k:Nat) (st:St):Prop:=∃K sv,(∃j:Nat→Value,st=⟨[j 0,j 1,j 2,j 3,j 4,j 5,v6,j 7,j 8,pt db,j 10,j 11,j 12,sv,.int .i64 (k:Int),j 15,j 16,j 17,j 18,j 19,j 20,j 21,j 22,j 23,j 24,j 25,j 26,j 27,j 28,j 29,j 30,j 31,j 32,j 33,j 34,j 35,j 36,j 37,j 38,j 39,j 40,j 41,j 42,j 43,j 44,j 45,j 46,j 47,j 48,j 49,j 50,j 51,j 52,j 53,j 54,j 55,j 56,j 57,j 58,j 59,j 60,j 61,j 62,j 63,j 64,j 65,j 66,j 67,j 68,j 69,j 70,j 71,j 72,j 73,j 74,j 75,j 76,j 77,j 78,j 79,j 80,j 81,j 82,j 83,j 84,j 85,j 86,j 87,j 88,j 89,j 90,j 91,j 92,j 93,j 94,j 95,j 96,j 97,j 98,j 99,j 100,j 101,j 102,j 103,j 104,j 105,j 106,j 107,j 108,j 109,j 110,j 111,j 112,j 113,j 114,j 115,j 116,j 117,j 118,j 119,j 120,j 121,j 122,j 123,j 124,j 125,j 126,j 127,j 128,j 129,j 130,j 131,j 132,j 133,j 134,j 135,j 136,j 137,j 138,j 139,j 140,j 141,j 142,j 143,j 144,j 145,j 146,j 147,j 148,j 149,j 150],K⟩)∧Pre K0 K∧Own K0 K sv 1 ((jf (l.take k)).map wRow)
def CgO (K0:Heap) (v6:Value) (db:Nat) (l:List Stm) (st:St):Prop:=∃K sv,(∃j:Nat→Value,st=⟨[j 0,j 1,j 2,j 3,j 4,j 5,v6,j 7,j 8,pt db,j 10,j 11,j 12,sv,j 14,j 15,j 16,j 17,j 18,j 19,j 20,j 21,j 22,j 23,j 24,j 25,j 26,j 27,j 28,j 29,j 30,j 31,j 32,j 33,j 34,j 35,j 36,j 37,j 38,j 39,j 40,j 41,j 42,j 43,j 44,j 45,j 46,j 47,j 48,j 49,j 50,j 51,j 52,j 53,j 54,j 55,j 56,j 57,j 58,j 59,j 60,j 61,j 62,j 63,j 64,j 65,j 66,j 67,j 68,j 69,j 70,j 71,j 72,j 73,j 74,j 75,j 76,j 77,j 78,j 79,j 80,j 81,j 82,j 83,j 84,j 85,j 86,j 87,j 88,j 89,j 90,j 91,j 92,j 93,j 94,j 95,j 96,j 97,j 98,j 99,j 100,j 101,j 102,j 103,j 104,j 105,j 106,j 107,j 108,j 109,j 110,j 111,j 112,j 113,j 114,j 115,j 116,j 117,j 118,j 119,j 120,j 121,j 122,j 123,j 124,j 125,j 126,j 127,j 128,j 129,j 130,j 131,j 132,j 133,j 134,j 135,j 136,j 137,j 138,j 139,j 140,j 141,j 142,j 143,j 144,j 145,j 146,j 147,j 148,j 149,j 150],K⟩)∧Pre K0 K∧Own K0 K sv 1 ((jf l).map wRow)
def CfI (H:Heap) (a b:Value) (k:Nat) (st:St):Prop:=∃j:Nat→Value,st=⟨[j 0,j 1,j 2,j 3,j 4,j 5,j 6,j 7,j 8,j 9,j 10,j 11,j 12,a,j 14,b,.int .i64 (k:Int),j 17,j 18,j 19,j 20,j 21,j 22,j 23,j 24,j 25,j 26,j 27,j 28,j 29,j 30,j 31,j 32,j 33,j 34,j 35,j 36,j 37,j 38,j 39,j 40,j 41,j 42,j 43,j 44,j 45,j 46,j 47,j 48,j 49,j 50,j 51,j 52,j 53,j 54,j 55,j 56,j 57,j 58,j 59,j 60,j 61,j 62,j 63,j 64,j 65,j 66,j 67,j 68,j 69,j 70,j 71,j 72,j 73,j 74,j 75,j 76,j 77,j 78,j 79,j 80,j 81,j 82,j 83,j 84,j 85,j 86,j 87,j 88,j 89,j 90,j 91,j 92,j 93,j 94,j 95,j 96,j 97,j 98,j 99,j 100,j 101,j 102,j 103,j 104,j 105,j 106,j 107,j 108,j 109,j 110,j 111,j 112,j 113,j 114,j 115,j 116,j 117,j 118,j 119,j 120,j 121,j 122,j 123,j 124,j 125,j 126,j 127,j 128,j 129,j 130,j 131,j 132,j 133,j 134,j 135,j 136,j 137,j 138,j 139,j 140,j 141,j 142,j 143,j 144,j 145,j 146,j 147,j 148,j 149,j 150],H⟩
theorem yob:(([120,55]:Bys) !=[120,55])=false:=by decide
set_option maxHeartbeats 16000000 in
theorem zr2 {text:Bys} {names:Kn} {ns:Value} {h:Heap} (g:Gl h) (hns:Sl h ns 2 (names.map zw)) (h1:text.length≤2 ^ 50) (h2:names.length≤2 ^ 50) (h4:∀d∈names,d.1.length≤2 ^ 50):
  ∃v h',DF FF bk [str text,ns] h=some (v,h')∧v=.bool true:=by
 refine yb zfv ?_
 have hb0:Sl h (.slice none 0 0) 35 (zaz []):=⟨.inl ⟨rfl,rfl⟩,by simp [zaz]⟩
 obtain ⟨bm,qm,hm⟩:=ylv (bl:=[]) hns hb0 h1 h2 (by simp) h4 (by simp)
 cases bm with
 | true=>simp only [jz,zb,yor,yos,zy,zf,yfg g,qm,pkA,pkB]
 | false=>
  have hm:=hm rfl
  simp only [List.length_nil,yqe] at hm
  obtain ⟨n1,K1,q1,o1,p1⟩:=yl2 (bytes:=24) hns (by simp [wy];omega)
  obtain ⟨n2,K2,q2,o2,p2,_,_,_⟩:=o1.push p1 (row:=[str [120,55],.bool false]) (bytes:=24) rfl (by simp [wy];omega)
  obtain ⟨pb,ver,rfl,hpb,hpb2,slf⟩:=o2.front (more:=[[str [120,55],.bool false]]) (by simp)
  rw [ypd] at slf o2 q2
  have ln:∀H,lenO H ns=some (.int .i64 (names.length:Int),H):=fun H=>by rw [hns.len,ypd]
  have cutF:∀H,cutO H 2 none (some (.int .i64 (names.length:Int))) (.slice (some ⟨pb,0,some ver⟩) (names.length+1) 2)=some (.slice (some ⟨pb,0,some ver⟩) names.length 2,H):=fun H=>yik _ .i64 (by omega)
  have f1:yp [str [],Value.bool false] [(0,1,str [120,55])]=some [str [120,55],.bool false]:=by rfl
  have f2:yp [str [],Value.bool false] [(0,2,agg [str [120,55],.bool false])]=some [str [120,55],.bool false]:=by rfl
  have lg:∀H,lenO H (.slice (some ⟨pb,0,some ver⟩) (names.length+1) 2)=some (.int .i64 ((names.length+1:Nat):Int),H):=fun H=>rfl
  have rlast:∀H,rowO H 2 (.slice (some ⟨pb,0,some ver⟩) (names.length+1) 2) (.int .i64 (names.length:Int))=some (.pointer (some ⟨pb,names.length*2,some ver⟩),H):=fun H=>by have:=zro H (size:=2) (p:=⟨pb,0,some ver⟩) (kk:=.i64) (k:=names.length) (n:=names.length+1) (by omega);simpa only [Nat.zero_add] using this
  have last:∀H,Pre K2 H→Heap.read1 H ⟨pb,names.length*2,some ver⟩=some (str [120,55]):=fun H p=>by
   obtain ⟨b,oo,v,r1,r2⟩:=(o2.sl.pre p).atH (k:=names.length) (by simp)
   have same:=(r1 H).symm.trans (rlast H)
   simp only [yot,yo2,Value.pointer.injEq,Addr.mk.injEq,and_true] at same
   obtain ⟨rfl,rfl,rfl⟩:=same
   exact bt r2 (by rw [List.getElem_append_right (by simp)];simp)
  have x7:=yob
  rcases ybe (text:=text) (g.pre p2) slf (by omega) with ⟨c,a,hR,hc,q3⟩ | ⟨md,mb,H3,hR,q3,M,p3,ok⟩
  ·rcases zpe (text:=text) (hns.pre p2) (by omega) with ⟨c',a',hR',hc',q4⟩ | ⟨md,mb,H3,hR',q4,M,p3,ok⟩
   ·rw [hR] at hR'
    cases hR'
    have qd:=zwu slf (hns.pre p2) (by omega)
    have cc:((c:Int) !=(c:Int))=false:=by simp
    have ca:((a:Int) !=(a:Int))=false:=by simp
    simp only [jz,zi,zb,yor,yos,slc,ypa,yo4,yz,zda,zf,zcg,yfg g,qm,slc,f1,f2,q1,q2,ln,cutF,q3,q4,cc,ca,xm,zl,zda,qd,rlast,last K2 (Pre.refl _),x7,pkA,pkB]
    refine jv 0 (names.length+1) (ZgI h K2 nilP nilP (.slice (some ⟨pb,0,some ver⟩) (names.length+1) 2) pb (names.length+1)) (ZgO h K2 nilP nilP (.slice (some ⟨pb,0,some ver⟩) (names.length+1) 2) pb (names.length+1)) ?_ ?_ _ ⟨K2,_,junk rfl,o2,by simp,rfl,fun b o _ ho=>ho⟩ ?_
    ·rintro k st hk ⟨K,rows,⟨j,rfl⟩,own,hn,e⟩
     obtain ⟨o,v,K',r1,r2,rows',own',hn',e'⟩:=ye6 rfl own hn e hk
     have c1:((k:Int)<((names.length+1:Nat):Int))=True:=by simp;omega
     simp only [zb,yor,zc,lg,c1,r1,r2,zs (k:=k) (by omega),pkA,pkB]
     exact ⟨K',rows',junk rfl,own',hn',e'⟩
    ·rintro st ⟨K,rows,⟨j,rfl⟩,own,hn,e⟩
     have c1:(((names.length+1:Nat):Int)<((names.length+1:Nat):Int))=False:=by simp
     simp only [zb,x8,zq,lg,c1,x8,pkA]
     exact ⟨K,junk rfl,e⟩
    rintro st ⟨K,⟨j,rfl⟩,e⟩
    simp only [zy,ypa,yz,xm,zl,pkA]
   ·rw [hR] at hR';cases hR'
  ·rcases zpe (text:=text) (hns.pre (p2.trans p3)) (by omega) with ⟨c',a',hR',hc',q4⟩ | ⟨md',db,H4,hR',q4,D,p4,ok'⟩
   ·rw [hR] at hR';cases hR'
   ·rw [hR] at hR'
    cases hR'
    have qd:=zwu ((slf.pre p3).pre p4) (hns.pre ((p2.trans p3).trans p4)) (by omega)
    simp only [jz,zi,zb,yor,yos,slc,ypa,yo4,yz,zda,zf,zcg,yo7,yfg g,qm,slc,f1,f2,q1,q2,ln,cutF,q3,q4,zj,zl,zda,qd,rlast,last H4 (p3.trans p4),x7,pkA,pkB]
    refine jv 0 (names.length+1) (ZgI h H4 (pt mb) (pt db) (.slice (some ⟨pb,0,some ver⟩) (names.length+1) 2) pb (names.length+1)) (ZgO h H4 (pt mb) (pt db) (.slice (some ⟨pb,0,some ver⟩) (names.length+1) 2) pb (names.length+1)) ?_ ?_ _ ⟨H4,_,junk rfl,o2.keep fun i hi o ho=>(p3.trans p4).kept _ _ ho,by simp,rfl,fun b o _ ho=>ho⟩ ?_
    ·rintro k st hk ⟨K,rows,⟨j,rfl⟩,own,hn,e⟩
     obtain ⟨o,v,K',r1,r2,rows',own',hn',e'⟩:=ye6 rfl own hn e hk
     have c1:((k:Int)<((names.length+1:Nat):Int))=True:=by simp;omega
     simp only [zb,yor,zc,lg,c1,r1,r2,zs (k:=k) (by omega),pkA,pkB]
     exact ⟨K',rows',junk rfl,own',hn',e'⟩
    ·rintro st ⟨K,rows,⟨j,rfl⟩,own,hn,e⟩
     have c1:(((names.length+1:Nat):Int)<((names.length+1:Nat):Int))=False:=by simp
     simp only [zb,x8,zq,lg,c1,x8,pkA]
     exact ⟨K,junk rfl,e⟩
    rintro st ⟨K,⟨j,rfl⟩,e⟩
    have MK:=(M.keep fun b o _ ho=>p4.kept b o ho).keep fun b o hb ho=>e.keep b o (by omega) ho
    have DK:=D.keep fun b o hb ho=>e.keep b o (by have:=p3.le;omega) ho
    obtain ⟨⟨ks,ls,ss,rows,T,d1,d2,d3,d4,d5,-,-,-,-⟩,-,dl1,dl2,dl3⟩:=DK
    have ls5:∀K,lenO K ss=some (.int .i64 (md.l.length:Int),K):=fun K=>by rw [d4.len,d5.len]
    have rd:∀{H:Heap},Pre K H→∀j,Heap.read1 H ⟨db,j,some 0⟩=([ks,ls,ss]:List Value)[j]?:=fun {H} p j=>zr (p.kept _ _ d1)
    have rdK:=rd (Pre.refl K)
    simp only [ypa,yz,zj,zl,pkA]
    refine jv 2 md.l.length (CgI K (pt mb) db md.l) (CgO K (pt mb) db md.l) ?_ ?_ _ ⟨K,_,junk rfl,Pre.refl _,Own.nil _ _ _⟩ ?_
    ·rintro k st hk ⟨H,sv,⟨j,rfl⟩,p,own⟩
     have c1:((k:Int)<(md.l.length:Int))=True:=by simp;omega
     have rdH:=rd p
     have hd:md.l[k]?=some md.l[k]:=yow hk
     obtain ⟨r,Ti,hr,st,-,-⟩:=d5.focus hk
     obtain ⟨b',o,v,a1,a2⟩:=(d4.pre p).atH (k:=k) (by rw [d5.len];exact hk)
     have hrr:rows[k]'(by rw [d5.len];exact hk)=r:=by
      rw [yow (by rw [d5.len];exact hk)] at hr;exact yqc hr
     rw [hrr] at a2
     cases hs:md.l[k] with
     | lets rc gs=>
      rw [hs] at st hd
      obtain ⟨s,bs,S,rfl,-⟩:=st
      have a3:Heap.read1 H ⟨b',o+2,some v⟩=some (str []):=zb4 a2 rfl
      have e0:(([]:Bys) !=[])=false:=rfl
      simp only [zb,zc,zcg,rdH,ls5,c1,a1,a3,e0,zs (k:=k) (by omega),pkA,pkB]
      exact ⟨H,sv,junk rfl,p,by unfold jf;rw [zbn hd];simpa [znx,jf] using own⟩
     | chk ck x as_=>
      rw [hs] at st hd
      obtain ⟨b,rfl,-⟩:=st
      have a3:Heap.read1 H ⟨b',o+2,some v⟩=some (str (ckS ck)):=zb4 a2 rfl
      have a4:Heap.read1 H ⟨b',o+3,some v⟩=some (str as_):=zb4 a2 rfl
      have e0:(ckS ck !=[])=true:=by cases ck <;> rfl
      have hroom:(((jf (md.l.take k)).map wRow).length+1)*16≤wy:=by
       have:=zh8 (md.l.take k)
       rw [ypd]
       have h2:(md.l.take k).length≤k:=by simp;omega
       unfold wy;omega
      obtain ⟨s',K2',r1,r2,r3,_,_,_⟩:=own.push p (row:=wRow as_) (bytes:=16) rfl hroom
      have r1':wu (H++[AObj.cells [str as_] 0 false]) 1 16 sv (za5 (H++[AObj.cells [str as_] 0 false]) 1 (.slice (some ⟨H.length,0,some 0⟩) 1 1))=some (s',K2'):=r1
      simp only [zb,slc,zc,zcg,ym,rdH,ls5,c1,a1,a3,a4,e0,r1',zs (k:=k) (by omega),pkA,pkB]
      exact ⟨K2',s',junk rfl,r3,by unfold jf;rw [zbn hd,yp8];simpa [znx,jf] using r2⟩
    ·rintro st ⟨H,sv,⟨j,rfl⟩,p,own⟩
     have c1:((md.l.length:Int)<(md.l.length:Int))=False:=by simp
     have rdH:=rd p
     simp only [zb,x8,zq,rdH,ls5,c1,x8,pkA,pkB]
     rw [ypq] at own
     exact ⟨H,sv,junk rfl,p,own⟩
    rintro st ⟨H,sv,⟨j,rfl⟩,p,own⟩
    have MH:=MK.keep fun b o _ ho=>p.kept b o ho
    obtain ⟨v5,H5,q5,o5,p5⟩:=zl6 MH
    obtain ⟨v6,H6,q6,o6,p6⟩:=zo7 (MH.keep fun b o _ ho=>p5.kept b o ho)
    obtain ⟨lx,ly,lz,rfl⟩:=yf8 d3
    have p36:=(p.trans p5).trans p6
    have q7:=zwu o6.sl (d3.pre p36) (by omega)
    have l5:=fun K=>o5.len K
    have l5':=fun K=>own.len K
    simp only [ypd] at l5 l5'
    have rd5:=rd (p.trans p5)
    have ag:zbd H6 (.pointer (some ⟨db,1,some 0⟩)) (.slice lx ly lz)=some (undef,H6):=zeq (by rw [rd p36];rfl)
    have cl:(((jf md.l).length:Int) !=((jf md.l).length:Int))=false:=by simp
    simp only [zi,zb,zak,q5,l5,l5',cl,rd5,q6,ag,q7,pkA,pkB]
    refine gg (jf md.l).length (CfI H6 sv v5) ?_ ?_ _ (junk rfl)
    ·rintro k st hk ⟨j,rfl⟩
     have c1:((k:Int)<((jf md.l).length:Int))=True:=by simp;omega
     obtain ⟨b1,x1,y1,r1,r2⟩:=((o5.sl.pre p6)).atH (k:=k) (by simpa using hk)
     obtain ⟨b2,x2,y2,t1,t2⟩:=((own.sl.pre p5).pre p6).atH (k:=k) (by simpa using hk)
     have r3:Heap.read1 H6 ⟨b1,x1,some y1⟩=some (str (jf md.l)[k]):=bt r2 (by rw [List.getElem_map];rfl)
     have t3:Heap.read1 H6 ⟨b2,x2,some y2⟩=some (str (jf md.l)[k]):=bt t2 (by rw [List.getElem_map];rfl)
     have en:((jf md.l)[k] !=(jf md.l)[k])=false:=by simp
     have hlim:=zh8 md.l
     simp only [zb,zc,zcg,l5,c1,r1,r3,t1,t3,en,zs (k:=k) (by omega),pkA]
     exact junk rfl
    ·rintro st ⟨j,rfl⟩
     have c1:(((jf md.l).length:Int)<((jf md.l).length:Int))=False:=by simp
     simp only [zb,zy,zq,l5,c1,pkA]
theorem catParses_law {m:Int} {t:TypeId} (h:Heap) (us:List Value) (hg:∀(i:Nat) (l:List Value),([[.int .i64 m],[.iface t (.chan (some 0))]]:List (List Value))[i]?=some l→h[i]?=some (AObj.cells l 0 true)) (ht:zrq h [(false,[.str]),(false,[(.slice 24 [.str,.bool])])] us):∃h',DF FF bk us h=some (.bool true,h'):=by
 match us,ht with
 | [u1,u2],ht=>
  obtain ⟨a,rfl,h1⟩:=zr9 (ht.1.2 0 _ _ rfl rfl)
  obtain ⟨names,s2,h2,h4⟩:=zvl ht.2.1
  obtain ⟨v,h',e,rfl⟩:=zr2 (Gl.of hg) s2 h1 h2 h4
  exact ⟨h',e⟩
section
/-- A listed variable's own cells, and what they read yoi. -/
theorem zxc {P:Program} {W:World}:∀{laid:List (String×DataW Unit)} {ps:List MemPlace} {n:String} {d:DataW Unit},DataW.LaidVars P W laid ps→(n,d)∈laid→
  ∃g t cs fuel p,P.globalNamed n=some g∧(P.globals[g]?).map (·.type)=some t∧W.var? P n=some cs∧DataW.trod (fun _=>()) P W 0 (fun _=>true) false fuel t cs.toList=some (d,p)∧∀i,i<cs.size→MemPlace.cell g i∈ps
 | [],ps,n,d,h,hm=>by cases hm
 | (m,e)::r,ps,n,d,h,hm=>by
  obtain ⟨g,t,cs,fuel,p,q,h1,h2,h3,h4,h5,rfl⟩:=h
  rcases ypx.1 hm with hm | hm
  ·cases hm
   refine ⟨g,t,cs,fuel,p,h1,h2,h3,h4,fun i hi=> ?_⟩
   simp only [MemPlace.row,ype,List.mem_map,List.mem_range]
   exact .inl (.inl ⟨i,hi,by simp⟩)
  ·obtain ⟨g',t',cs',fuel',p',k1,k2,k3,k4,k5⟩:=zxc h5 hm
   exact ⟨g',t',cs',fuel',p',k1,k2,k3,k4,fun i hi=>List.mem_append_right _ (k5 i hi)⟩
theorem ztp {P : Program} {W : World} {fuel : Nat} {u : TypeId} {cs : List Value} {d : DataW Unit} {p : List MemPlace} (h : DataW.trod (fun _ => ()) P W 0 (fun _ => true) false fuel u cs = some (.ptr d, p)) : ∃ e, P.underlying u = some (.pointer e) := by
  cases fuel with
  | zero => simp [DataW.trod] at h
  | succ fuel =>
    unfold DataW.trod at h
    split at h
    all_goals first
      | (rename_i hu; exact ⟨_, hu⟩)
      | (exfalso; simp at h; done)
      | (exfalso; simp only [ypm] at h; obtain ⟨_, _, h⟩ := h; cases h; done)
      | (exfalso; split at h
         · simp only [ypm, yo6] at h
           first
             | (obtain ⟨_, _, _, _, h⟩ := h; cases h; done)
             | (obtain ⟨_, _, h⟩ := h; cases h; done)
             | cases h
         · cases h
         done)
      | (exfalso; split at h <;> (first | (cases h; done) | (simp at h; done) | (simp only [ypm] at h; obtain ⟨_, _, h⟩ := h; cases h; done)); done)
      | (exfalso; split at h
         · split at h
           · simp only [yo6] at h
             obtain ⟨_, _, h⟩ := h
             split at h <;> cases h
           · cases h
         · cases h)
theorem zo1 {P:Program} {W:World} {fuel:Nat} {t:TypeId} {ms:Array (String×TypeId)} {cs:List Value} {nm:String} {d:DataW Unit} {p:List MemPlace} (hu:P.underlying t=some (.interface ms)) (h:DataW.trod (fun _=>()) P W 0 (fun _=>true) false fuel t cs=some (.iface nm (.ptr d),p)):
  ∃u v e,cs=[.iface u v]∧P.underlying u=some (.pointer e):=by
 cases fuel with
 | zero=>simp [DataW.trod] at h
 | succ fuel=>
  unfold DataW.trod at h
  rw [hu] at h
  split at h <;>(first | (rename_i he;cases he;done) | (simp at h;done) | skip)
  ·rename_i u v _
   split at h
   ·simp at h
   ·obtain ⟨y,h1,h2⟩:=ypm.1 h
    obtain ⟨y1,y2⟩:=y
    simp only [yo2,DataW.iface.injEq] at h2
    obtain ⟨⟨_,rfl⟩,_⟩:=h2
    obtain ⟨e,he⟩:=ztp h1
    exact ⟨u,v,e,rfl,he⟩
   ·cases h
theorem sentinel_cell {P:Program} {W:World} {laid:List (String×DataW Unit)} {n nm:String} {d:DataW Unit} {g:Nat} {t:TypeId} {ms:Array (String×TypeId)} (hL:laidMet P laid W) (hm:(n,.iface nm (.ptr d))∈laid) (hg:P.globalNamed n=some g) (ht:(P.globals[g]?).map (·.type)=some t) (hu:P.underlying t=some (.interface ms)):
  ∃u q,W.cell? ⟨g,0,none⟩=some (.iface u (.pointer q)):=by
 obtain ⟨ps,hv,_,hok⟩:=hL
 obtain ⟨g',t',cs,fuel,p,k1,k2,k3,k4,k5⟩:=zxc hv hm
 obtain rfl:=yqc (hg.symm.trans k1)
 obtain rfl:=yqc (ht.symm.trans k2)
 obtain ⟨u,v,e,hcs,hp⟩:=zo1 hu k4
 have hc:=World.var?_cell hg k3 0
 have h0:cs[0]?=some (.iface u v):=by rw [←Array.getElem?_toList,hcs];rfl
 rw [h0] at hc
 have hsz:0<cs.size:=by
  have:=congrArg List.length hcs;simp at this;omega
 have:=(hok g 0 (k5 0 hsz)).2 u v hc
 obtain ⟨a,rfl⟩:=Go.WideShapes.okWide_pointer hp this
 exact ⟨u,a,hc⟩
variable {H:Type} {enc:TypeId×Value→H}
theorem returns_shaped {a:Assume} {C:Checked} {os:Os} {f:FuncId} {fn:Func} {s:ChangeSpec} {conds:List PathCond} {apart fresh handsOn again:Bool} {X:World→Array Value→Prop}
  (hX:∀(w w':World) (args:Array Value),w.heap=w'.heap→X w args→X w' args)
  (own:ownKnob C.prog.godebug=none) (started:os.Started) (noInit:C.prog.inits.idxOf? f=none) (hfn:C.prog.funcs[f]?=some fn)
  (witness:∃(w:World) (tape:Tape) (i:Input),w.os=os∧(w.forCall tape i).Shaped C.prog∧i.vars=[]∧Input.okWide C.prog (w.forCall tape i) .any w.heap.size f i∧
   ((s.pre enc C.prog fn conds apart (w.forCall tape i).memory i.args∧X (w.forCall tape i).memory i.args)∧sizedMet enc C.prog fn (OpenSpec.ofChange s) apart (w.forCall tape i).memory i.args)∧a.holds C.prog (lone (Frame.enter C.prog f i.args .normal) [] (w.forCall tape i)))
  (contract:∀(W:World) (base:Nat) (args:Array Value) (ds gs:List (DataW H)) (before:List MemPlace),
   (∀(j:Nat) t v,fn.params[j]?=some t→args[j]?=some v→Value.okWide C.prog W .any base t v)→
   DataW.Whole enc C.prog fn.params.toList s.vars apart W args.toList ds gs before→
   (DataW.weightsEach C.prog (fn.params.toList++s.plain.varTypes C.prog) (ds++gs)).all (· ≤reachBytes)=true→X W args→W.ShapedOpen C.prog→
   Calls C.prog f args W fun e W'=>∃v,e=.returned v∧s.post enc C.prog fn apart fresh handsOn again W args v W'):
  ReturnsInHanded a C os f .any (fun w args=>(s.pre enc C.prog fn conds apart w args∧X w args)∧sizedMet enc C.prog fn (OpenSpec.ofChange s) apart w args) (s.post enc C.prog fn apart fresh handsOn again):=by
 refine returnsInHanded_of_calls own started noInit witness ?_
 intro w tape i _ hsh _ hok hpre _
 obtain ⟨_,_,_,fn',hfn',_,_,_,_,hval⟩:=hok
 obtain rfl:fn'=fn:=yqc (hfn'.symm.trans hfn)
 obtain ⟨⟨⟨ds,gs,before,hw,hc⟩,hx⟩,hz⟩:=hpre
 refine (contract (w.forCall tape i) w.heap.size i.args ds gs before hval (DataW.Whole.of_heap (w':=w.forCall tape i) (by rfl) hw) (hz.weights hw) (hX _ _ _ (by rfl) hx) hsh).mono fun e W' ⟨v,he,hp⟩=> ?_
 subst he
 exact ChangeSpec.post_blind hp
end
end Go.Proofs.YtljdbheclfaloaaGreatDoor.AM
