/-
  Part 7.
  Conditions: as each says.
-/
import Derived.Test.YtljdbheclfaloaaGreatDoorKr6
namespace Go.Proofs.YtljdbheclfaloaaGreatDoor.AM
open Go.RowKit
set_option linter.unusedSimpArgs false
set_option linter.unusedVariables false
set_option maxRecDepth 20000
theorem zwl (P : RP) (kn : Kn) (rc : List Bys) (a : Nat) (rt : Bool) : zff P kn rc rt (.zero a) := by
  intro hb h i0 i q km n rm S v e0 eh ch tr cl hS
  obtain ⟨b, rfl, hbS, hbo⟩ := tr
  have : ∃ v h', DF FF xn [pt q, pt b, .bool rt] h = some (v, h') ∧ (v = tup [] ∧ ChkR P i S (pt b) a h' (chkE kn rc rt (.zero a)) ∧ Kp P S h h') := by
    refine wz qb ?_
    obtain ⟨h0, hh0⟩ : ∃ h0, h0 = h ++ [AObj.cells [pt q] 0 false] := ⟨_, rfl⟩
    have eh0 : Rd P h0 i 0 0 0 := by rw [hh0]; exact eh.more _
    have k0 : Kp P S h h0 := by rw [hh0]; exact Kp.add _ _ _ _
    have hbb : h0[h.length]? = some (.cells [pt q] 0 false) := by rw [hh0]; simp
    have lh0 : h.length < h0.length := by rw [hh0]; simp
    have ch0 := ch.kp eh k0 cl.q cl.k cl.r
    have hn : h0[b]? = some (.cells (vd [48] [] a nilP nilP false) 0 false) := by rw [hh0]; exact xa _ hbo
    have rb : ∀ j, Heap.read1 h0 ⟨b, j, some 0⟩ = (vd [48] [] a nilP nilP false)[j]? := fun j => we hn
    have rq : ∀ j, Heap.read1 h0 ⟨q, j, some 0⟩ = ([pt P.r, .map (some km), rm, .int .i64 (n : Int)] : List Value)[j]? := fun j => we ch0.cq
    have rbb : ∀ j, Heap.read1 h0 ⟨h.length, j, some 0⟩ = ([pt q] : List Value)[j]? := fun j => we hbb
    have nil1 := fun rt => zgd (q := q) eh0 rt
    have f1 : ChkR P i S (pt b) a h0 (chkE kn rc rt (.zero a)) := ⟨⟨b, rfl, hbS, hn⟩, rfl, eh0⟩
    have ff := ChkR.fin eh k0 hS f1
    cases rt
    · simp only [y3, z7, zr, yl, zb, zu, z8, zn, ye, zc, yr, zo, zf, ze, zd, List.set_cons_succ, List.set_cons_zero, O_mv, yw, xf, yu, yg, O_un, yf, List.map_cons, List.map_nil, zz, zk, vp, List.cons_append, List.nil_append, List.length_cons, List.length_nil, Nat.reduceAdd, Nat.reduceSub, Nat.zero_add, Bool.not_true, zm, yb, zx, za, zi, w8, xc, z6, zq, zj, zh, zg, Nat.add_zero, List.getElem?_cons_zero, Bool.bne_false, jq, eq_self, zt, yi, w9, laid, zt, ← hh0, xo, xq, rbb, rq, ok_0 eh0, rb, qy, qf, qi, nil1, g9, zrr, zr3, zr8, zru, ztt, ztl, zs3, zsc, zsk, ztb, zo0, zpf, wn]
      exact ⟨trivial, ff _⟩
    · simp only [y3, z7, zr, yl, zb, zu, z8, zn, ye, zc, yr, wi, zo, zf, ze, zd, List.set_cons_succ, List.set_cons_zero, O_mv, yw, xf, yu, yg, O_un, yf, List.map_cons, List.map_nil, zz, zk, vp, List.cons_append, List.nil_append, List.length_cons, List.length_nil, Nat.reduceAdd, Nat.reduceSub, Nat.zero_add, Bool.not_true, zm, yb, zx, za, zi, w8, xc, z6, zq, zj, zh, zg, Nat.add_zero, List.getElem?_cons_zero, Bool.bne_false, jq, eq_self, zt, yi, w9, laid, zt, ← hh0, xo, xq, rbb, rq, ok_0 eh0, rb, qy, qf, qi, nil1, g9, zrr, zr3, zr8, zru, ztt, ztl, zs3, zsc, zsk, ztb, zo0, zpf, wn]
      exact ⟨trivial, ff _⟩
  obtain ⟨v, h', r, rfl, g⟩ := this
  exact ⟨h', r, g⟩
structure One (P : RP) (h h0 h1 : Heap) (i q km n b bx x c : Nat) (rm : Value) (kn : Kn) (rc : List Bys) (S : Nat → Prop) (op : Bys) (a : Nat) (rv : Value) (s t : Bool) (pl : Nat) : Prop where
  rd : Rd P h1 i 0 x c
  kp : Kp P S h h1
  cq : h1[q]? = some (.cells [pt P.r, .map (some km), rm, .int .i64 (n : Int)] 0 false)
  bb : h1[h.length]? = some (.cells [pt q] 0 false)
  nd : h1[b]? = some (.cells (vd op [] a (pt bx) rv s) 0 false)
  ch : ∃ op' w' l' r', h1[bx]? = some (.cells (vd op' w' pl l' r' t) 0 false)
def OneR (h1 : Heap) (S' : Nat → Prop) (bx pl x c : Nat) (t : Bool) : CR Ex → Prop
  | .ok e' => x = 0 ∧ c = 0 ∧ t = e'.set ∧ TreeP h1 S' (pt bx) e' ∧ e'.pl = pl
  | .bad x' c' => x ≠ 0 ∧ x = x' ∧ c = c' ∧ ∃ e', TreeP h1 S' (pt bx) e' ∧ e'.pl = pl
theorem zuv {P : RP} {hb h h0 h1 : Heap} {i0 i q km n b : Nat} {rm xv : Value} {kn : Kn} {rc : List Bys} {S S' : Nat → Prop} {op : Bys} {a : Nat} {rv : Value} {s : Bool} {e : Ex} {R : CR Ex} (e0 : Rd P hb i0 0 0 0) (eh : Rd P h i 0 0 0) (eh0 : Rd P h0 i 0 0 0) (k0 : Kp P S h h0) (hbb : h0[h.length]? = some (.cells [pt q] 0 false)) (ch0 : Ch P h0 q km rm n kn rc)
    (hn : h0[b]? = some (.cells (vd op [] a xv rv s) 0 false)) (cl : Cl P hb q km rm S) (hS : ∀ z, S z → z < h.length) (hbS : S b) (hs : ∀ y, S' y → S y ∧ y ≠ b) (r1 : ChkR P i S' xv e.pl h1 R) (k1 : Kp P S' h0 h1) :
    ∃ bx x c t, xv = pt bx ∧ One P h h0 h1 i q km n b bx x c rm kn rc S op a rv s t e.pl ∧ OneR h1 S' bx e.pl x c t R := by
  have nr : ∀ z, hb.length ≤ z → z ≠ P.r := fun z hz => by have := e0.lr; omega
  have kp : Kp P S h h1 := (k0.trans k1).weak fun z hz => hz.elim id fun h => (hs z h).1
  have ch1 := ch0.kp eh0 k1 (fun h => cl.q (hs _ h).1) (fun h => cl.k (hs _ h).1) (fun b hb h => cl.r b hb (hs _ h).1)
  have bb1 := k1.keep _ _ hbb (fun h => by have := hS _ (hs _ h).1; omega) (by have := eh.lr; omega)
  have nd1 := k1.keep _ _ hn (fun h => (hs _ h).2 rfl) (nr b (cl.lo b hbS))
  cases R with
  | ok e' =>
    obtain ⟨t, hp, e1⟩ := r1
    obtain ⟨bx, op', w', l', r', rfl, _, hbx⟩ := t.root
    rw [hp] at hbx
    exact ⟨bx, 0, 0, e'.set, rfl, ⟨e1, kp, ch1.cq, bb1, nd1, _, _, _, _, hbx⟩, rfl, rfl, rfl, t, hp⟩
  | bad x c =>
    obtain ⟨hx, ⟨e', t, hp⟩, e1⟩ := r1
    obtain ⟨bx, op', w', l', r', rfl, _, hbx⟩ := t.root
    rw [hp] at hbx
    exact ⟨bx, x, c, e'.set, rfl, ⟨e1, kp, ch1.cq, bb1, nd1, _, _, _, _, hbx⟩, hx, rfl, rfl, e', t, hp⟩
set_option maxHeartbeats 4000000 in
theorem zw9 (P : RP) (kn : Kn) (rc : List Bys) (s : Bool) (a : Nat) (e : Ex) (rt : Bool) (ih : zff P kn rc rt e) : zff P kn rc rt (.par s a e) := by
  intro hb h i0 i q km n rm S v e0 eh ch tr cl hS
  obtain ⟨b, S', xv, rfl, hbS, hbo, tx, hs⟩ := tr
  have : ∃ v h', DF FF xn [pt q, pt b, .bool rt] h = some (v, h') ∧ (v = tup [] ∧ ChkR P i S (pt b) (a) h' (chkE kn rc rt (.par s a e)) ∧ Kp P S h h') := by
    refine wz qb ?_
    obtain ⟨h0, hh0⟩ : ∃ h0, h0 = h ++ [AObj.cells [pt q] 0 false] := ⟨_, rfl⟩
    have eh0 : Rd P h0 i 0 0 0 := by rw [hh0]; exact eh.more _
    have k0 : Kp P S h h0 := by rw [hh0]; exact Kp.add _ _ _ _
    have hbb : h0[h.length]? = some (.cells [pt q] 0 false) := by rw [hh0]; simp
    have lh0 : h.length < h0.length := by rw [hh0]; simp
    have ch0 := ch.kp eh k0 cl.q cl.k cl.r
    have hn : h0[b]? = some (.cells (vd [40] [] a xv nilP s) 0 false) := by rw [hh0]; exact xa _ hbo
    have rb : ∀ j, Heap.read1 h0 ⟨b, j, some 0⟩ = (vd [40] [] a xv nilP s)[j]? := fun j => we hn
    have rq : ∀ j, Heap.read1 h0 ⟨q, j, some 0⟩ = ([pt P.r, .map (some km), rm, .int .i64 (n : Int)] : List Value)[j]? := fun j => we ch0.cq
    have rbb : ∀ j, Heap.read1 h0 ⟨h.length, j, some 0⟩ = ([pt q] : List Value)[j]? := fun j => we hbb
    obtain ⟨h1, q1, r1, k1⟩ := ih hb h0 i0 i q km n rm S' xv e0 eh0 ch0 (tx.keep fun c o hc ho => by rw [hh0]; exact xa _ ho) (cl.weak fun z hz => (hs z hz).1) (fun z hz => by have := hS z (hs z hz).1; omega)
    obtain ⟨bx, x, c, t, rfl, O, hR⟩ := zuv e0 eh eh0 k0 hbb ch0 hn cl hS hbS hs r1 k1
    have eh1 := O.rd
    have nil1 := fun rt => zgd (q := q) eh1 rt
    have rb1 : ∀ j, Heap.read1 h1 ⟨b, j, some 0⟩ = (vd [40] [] (a) (pt bx) nilP s)[j]? := fun j => we O.nd
    have rq1 : ∀ j, Heap.read1 h1 ⟨q, j, some 0⟩ = ([pt P.r, .map (some km), rm, .int .i64 (n : Int)] : List Value)[j]? := fun j => we O.cq
    have rbb1 : ∀ j, Heap.read1 h1 ⟨h.length, j, some 0⟩ = ([pt q] : List Value)[j]? := fun j => we O.bb
    obtain ⟨op', w', l', r', hx⟩ := O.ch
    cases hc : chkE kn rc rt e with
    | bad ec ea =>
      rw [hc] at hR
      obtain ⟨hx0, rfl, rfl, e', te, hp⟩ := hR
      have hRR : chkE kn rc rt (.par s a e) = .bad x c := by rw [chkE, hc]
      have f1 : ChkR P i S (pt b) (a) h1 (chkE kn rc rt (.par s a e)) := by rw [hRR]; exact ⟨hx0, ⟨.par s a e', ⟨b, S', pt bx, rfl, hbS, O.nd, te, hs⟩, rfl⟩, eh1⟩
      have ff := ChkR.fin eh O.kp hS f1
      cases rt
      · simp only [y3, z7, zr, xe, yl, zb, zw, zu, z8, zn, ye, zc, yr, zo, zf, ze, zd, List.set_cons_succ, List.set_cons_zero, O_mv, yw, xf, yu, yg, O_un, yf, List.map_cons, List.map_nil, zz, zk, vp, List.cons_append, List.nil_append, List.length_cons, List.length_nil, Nat.reduceAdd, Nat.reduceSub, Nat.zero_add, Bool.not_true, Bool.not_false, zm, yb, za, y5, w8, xc, z6, zq, zj, zh, zg, Nat.add_zero, List.getElem?_cons_zero, Bool.bne_false, jq, eq_self, zt, yi, w9, laid, zt, ← hh0, xo, xq, rbb, rq, ok_0 eh0, rb, qy, qf, qi, q1, nil1, rb1, rq1, rbb1, zzn, fh eh1 hx0, zey]
        exact ⟨trivial, ff _⟩
      · simp only [y3, z7, zr, xe, yl, zb, zw, zu, z8, zn, ye, zc, yr, wi, zo, zf, ze, zd, List.set_cons_succ, List.set_cons_zero, O_mv, yw, xf, yg, O_un, yf, List.map_cons, List.map_nil, zz, zk, vp, List.cons_append, List.nil_append, List.length_cons, List.length_nil, Nat.reduceAdd, Nat.reduceSub, Nat.zero_add, Bool.not_true, Bool.not_false, zm, yb, za, y5, w8, xc, z6, zq, zj, zh, zg, Nat.add_zero, List.getElem?_cons_zero, Bool.bne_false, jq, eq_self, zt, yi, laid, zt, ← hh0, xo, xq, rbb, rq, ok_0 eh0, rb, qf, qi, q1, nil1, rb1, rq1, rbb1, fh eh1 hx0, zey]
        exact ⟨trivial, ff _⟩
    | ok e' =>
      rw [hc] at hR
      obtain ⟨rfl, rfl, rfl, te, hp⟩ := hR
      have hRR : chkE kn rc rt (.par s a e) = .ok (.par e'.set a e') := by rw [chkE, hc]
      have rx : Heap.read1 h1 ⟨bx, 5, some 0⟩ = some (.bool e'.set) := we hx
      have lb := (List.getElem?_eq_some_iff.1 O.nd).1
      have wb : Heap.write1 h1 ⟨b, 5, some 0⟩ (.bool e'.set) = some (h1.set b (.cells (vd [40] [] a (pt bx) nilP e'.set) 0 false)) := by rw [ph O.nd (by simp [vd]), zjl]
      have f1 : ChkR P i S (pt b) a (h1.set b (.cells (vd [40] [] a (pt bx) nilP e'.set) 0 false)) (chkE kn rc rt (.par s a e)) := by
        rw [hRR]
        exact ⟨⟨b, S', pt bx, rfl, hbS, List.getElem?_set_self lb, te.keep fun z o hz ho => by rw [List.getElem?_set_ne (Ne.symm (hs z hz).2)]; exact ho, hs⟩, rfl, e0.node eh1 (cl.lo b hbS) _⟩
      have ff := ChkR.fin eh (O.kp.set hbS _) hS f1
      cases rt
      · simp only [y3, z7, zr, yl, zb, zw, zu, z8, zn, ye, zc, zp, yr, zo, zf, ze, zd, List.set_cons_succ, List.set_cons_zero, O_mv, yw, xf, yu, yg, O_un, yf, List.map_cons, List.map_nil, zz, zk, vp, List.cons_append, List.nil_append, List.length_cons, List.length_nil, Nat.reduceAdd, Nat.reduceSub, Nat.zero_add, Bool.not_true, zm, yb, zx, za, zi, w8, xc, z6, zl, xd, fe, zq, zj, zh, zg, Nat.add_zero, List.getElem?_cons_zero, Bool.bne_false, beq_self_eq_true, jq, eq_self, zt, yi, w9, laid, zt, ← hh0, xo, xq, rbb, rq, ok_0 eh0, rb, qy, qf, qi, q1, nil1, rb1, rq1, rbb1, g9, yag, yd3, ydc, zzn, ydb, yea, ydh, ok_0 eh1, rx, wb, wn]
        exact ⟨trivial, ff _⟩
      · simp only [y3, z7, zr, yl, zb, zw, zu, z8, zn, ye, zc, zp, yr, wi, zo, zf, ze, zd, List.set_cons_succ, List.set_cons_zero, O_mv, yw, xf, yu, yg, O_un, yf, List.map_cons, List.map_nil, zz, zk, vp, List.cons_append, List.nil_append, List.length_cons, List.length_nil, Nat.reduceAdd, Nat.reduceSub, Nat.zero_add, Bool.not_true, zm, yb, zx, za, zi, w8, xc, z6, zl, xd, fe, zq, zj, zh, zg, Nat.add_zero, List.getElem?_cons_zero, Bool.bne_false, beq_self_eq_true, jq, eq_self, zt, yi, w9, laid, zt, ← hh0, xo, xq, rbb, rq, ok_0 eh0, rb, qy, qf, qi, q1, nil1, rb1, rq1, rbb1, g9, yag, yd3, ydc, zzn, ydb, yea, ydh, ok_0 eh1, rx, wb, wn]
        exact ⟨trivial, ff _⟩
  obtain ⟨v, h', r, rfl, g⟩ := this
  exact ⟨h', r, g⟩
set_option maxHeartbeats 4000000 in
theorem zxr (P : RP) (kn : Kn) (rc : List Bys) (a : Nat) (e : Ex) (rt : Bool) (ih : zff P kn rc rt e) : zff P kn rc rt (.box a e) := by
  intro hb h i0 i q km n rm S v e0 eh ch tr cl hS
  obtain ⟨b, S', xv, rfl, hbS, hbo, tx, hs⟩ := tr
  have : ∃ v h', DF FF xn [pt q, pt b, .bool rt] h = some (v, h') ∧ (v = tup [] ∧ ChkR P i S (pt b) (a) h' (chkE kn rc rt (.box a e)) ∧ Kp P S h h') := by
    refine wz qb ?_
    obtain ⟨h0, hh0⟩ : ∃ h0, h0 = h ++ [AObj.cells [pt q] 0 false] := ⟨_, rfl⟩
    have eh0 : Rd P h0 i 0 0 0 := by rw [hh0]; exact eh.more _
    have k0 : Kp P S h h0 := by rw [hh0]; exact Kp.add _ _ _ _
    have hbb : h0[h.length]? = some (.cells [pt q] 0 false) := by rw [hh0]; simp
    have lh0 : h.length < h0.length := by rw [hh0]; simp
    have ch0 := ch.kp eh k0 cl.q cl.k cl.r
    have hn : h0[b]? = some (.cells (vd [91] [] a xv nilP false) 0 false) := by rw [hh0]; exact xa _ hbo
    have rb : ∀ j, Heap.read1 h0 ⟨b, j, some 0⟩ = (vd [91] [] a xv nilP false)[j]? := fun j => we hn
    have rq : ∀ j, Heap.read1 h0 ⟨q, j, some 0⟩ = ([pt P.r, .map (some km), rm, .int .i64 (n : Int)] : List Value)[j]? := fun j => we ch0.cq
    have rbb : ∀ j, Heap.read1 h0 ⟨h.length, j, some 0⟩ = ([pt q] : List Value)[j]? := fun j => we hbb
    obtain ⟨h1, q1, r1, k1⟩ := ih hb h0 i0 i q km n rm S' xv e0 eh0 ch0 (tx.keep fun c o hc ho => by rw [hh0]; exact xa _ ho) (cl.weak fun z hz => (hs z hz).1) (fun z hz => by have := hS z (hs z hz).1; omega)
    obtain ⟨bx, x, c, t, rfl, O, hR⟩ := zuv e0 eh eh0 k0 hbb ch0 hn cl hS hbS hs r1 k1
    have eh1 := O.rd
    have nil1 := fun rt => zgd (q := q) eh1 rt
    have rb1 : ∀ j, Heap.read1 h1 ⟨b, j, some 0⟩ = (vd [91] [] (a) (pt bx) nilP false)[j]? := fun j => we O.nd
    have rq1 : ∀ j, Heap.read1 h1 ⟨q, j, some 0⟩ = ([pt P.r, .map (some km), rm, .int .i64 (n : Int)] : List Value)[j]? := fun j => we O.cq
    have rbb1 : ∀ j, Heap.read1 h1 ⟨h.length, j, some 0⟩ = ([pt q] : List Value)[j]? := fun j => we O.bb
    obtain ⟨op', w', l', r', hx⟩ := O.ch
    cases hc : chkE kn rc rt e with
    | bad ec ea =>
      rw [hc] at hR
      obtain ⟨hx0, rfl, rfl, e', te, hp⟩ := hR
      have hRR : chkE kn rc rt (.box a e) = .bad x c := by rw [chkE, hc]
      have f1 : ChkR P i S (pt b) (a) h1 (chkE kn rc rt (.box a e)) := by rw [hRR]; exact ⟨hx0, ⟨.box a e', ⟨b, S', pt bx, rfl, hbS, O.nd, te, hs⟩, rfl⟩, eh1⟩
      have ff := ChkR.fin eh O.kp hS f1
      cases rt
      · simp only [y3, z7, zr, xe, yl, zb, zw, zu, z8, zn, ye, zc, yr, zo, zf, ze, zd, List.set_cons_succ, List.set_cons_zero, O_mv, yw, xf, yu, yg, O_un, yf, List.map_cons, List.map_nil, zz, zk, vp, List.cons_append, List.nil_append, List.length_cons, List.length_nil, Nat.reduceAdd, Nat.reduceSub, Nat.zero_add, Bool.not_true, Bool.not_false, zm, yb, za, y5, w8, xc, z6, zq, zj, zh, zg, Nat.add_zero, List.getElem?_cons_zero, Bool.bne_false, jq, eq_self, zt, yi, w9, laid, zt, ← hh0, xo, xq, rbb, rq, ok_0 eh0, rb, qy, qf, qi, q1, nil1, rb1, rq1, rbb1, znr, fh eh1 hx0, zey]
        exact ⟨trivial, ff _⟩
      · simp only [y3, z7, zr, xe, yl, zb, zw, zu, z8, zn, ye, zc, yr, wi, zo, zf, ze, zd, List.set_cons_succ, List.set_cons_zero, O_mv, yw, xf, yg, O_un, yf, List.map_cons, List.map_nil, zz, zk, vp, List.cons_append, List.nil_append, List.length_cons, List.length_nil, Nat.reduceAdd, Nat.reduceSub, Nat.zero_add, Bool.not_true, Bool.not_false, zm, yb, za, y5, w8, xc, z6, zq, zj, zh, zg, Nat.add_zero, List.getElem?_cons_zero, Bool.bne_false, jq, eq_self, zt, yi, laid, zt, ← hh0, xo, xq, rbb, rq, ok_0 eh0, rb, qf, qi, q1, nil1, rb1, rq1, rbb1, fh eh1 hx0, zey]
        exact ⟨trivial, ff _⟩
    | ok e' =>
      rw [hc] at hR
      obtain ⟨rfl, rfl, rfl, te, hp⟩ := hR
      cases hst : (e'.set == true)
      · have hRR : chkE kn rc rt (.box a e) = .bad 41 e.pl := by rw [chkE, hc]; cases h' : e'.set <;> rw [h'] at hst <;> simp_all
        obtain ⟨h2, qm, e2, m2, c2⟩ := zo1 eh1 O.cq O.bb hx hst
        have k2 := m2.kp fun o ho => by rw [c2]; exact ho
        have nd2 := k2.keep _ _ O.nd id (by have := cl.lo b hbS; have := e0.lr; omega)
        have f1 : ChkR P i S (pt b) (a) h2 (chkE kn rc rt (.box a e)) := by
          rw [hRR]
          exact ⟨by omega, ⟨.box a e', ⟨b, S', pt bx, rfl, hbS, nd2, te.keep fun z o hz ho => k2.keep z o ho id (by have := cl.lo z (hs z hz).1; have := e0.lr; omega), hs⟩, rfl⟩, e2⟩
        have ff := ChkR.fin eh ((O.kp.trans k2).weak fun z hz => hz.elim id False.elim) hS f1
        cases rt
        · simp only [y3, z7, zr, yl, zb, zw, zu, z8, zn, ye, zc, yr, zo, zf, ze, zd, List.set_cons_succ, List.set_cons_zero, O_mv, yw, xf, yu, yg, O_un, yf, List.map_cons, List.map_nil, zz, zk, vp, List.cons_append, List.nil_append, List.length_cons, List.length_nil, Nat.reduceAdd, Nat.reduceSub, Nat.zero_add, Bool.not_true, zm, yb, zx, za, zi, w8, xc, z6, zq, zj, zh, zg, Nat.add_zero, List.getElem?_cons_zero, Bool.bne_false, beq_self_eq_true, jq, eq_self, zt, yi, w9, laid, zt, ← hh0, xo, xq, rbb, rq, ok_0 eh0, rb, qy, qf, qi, q1, nil1, rb1, rq1, rbb1, g9, bj, jf, zro, zp2, zq0, znr, zp9, zq9, ok_0 eh1, qm, wn]
          exact ⟨trivial, ff _⟩
        · simp only [y3, z7, zr, yl, zb, zw, zu, z8, zn, ye, zc, yr, wi, zo, zf, ze, zd, List.set_cons_succ, List.set_cons_zero, O_mv, yw, xf, yu, yg, O_un, yf, List.map_cons, List.map_nil, zz, zk, vp, List.cons_append, List.nil_append, List.length_cons, List.length_nil, Nat.reduceAdd, Nat.reduceSub, Nat.zero_add, Bool.not_true, zm, yb, zx, za, zi, w8, xc, z6, zq, zj, zh, zg, Nat.add_zero, List.getElem?_cons_zero, Bool.bne_false, beq_self_eq_true, jq, eq_self, zt, yi, w9, laid, zt, ← hh0, xo, xq, rbb, rq, ok_0 eh0, rb, qy, qf, qi, q1, nil1, rb1, rq1, rbb1, g9, bj, jf, zro, zp2, zq0, znr, zp9, zq9, ok_0 eh1, qm, wn]
          exact ⟨trivial, ff _⟩
      · have hRR : chkE kn rc rt (.box a e) = .ok (.box a e') := by rw [chkE, hc]; cases h' : e'.set <;> rw [h'] at hst <;> simp_all
        have qm := zo3 (bb := h.length) hx
        rw [eq_of_beq hst] at qm
        have f1 : ChkR P i S (pt b) (a) h1 (chkE kn rc rt (.box a e)) := by
          rw [hRR]
          exact ⟨⟨b, S', pt bx, rfl, hbS, O.nd, te, hs⟩, rfl, eh1⟩
        have ff := ChkR.fin eh O.kp hS f1
        cases rt
        · simp only [y3, z7, zr, yl, zb, zw, zu, z8, zn, ye, zc, yr, zo, zf, ze, zd, List.set_cons_succ, List.set_cons_zero, O_mv, yw, xf, yu, yg, O_un, yf, List.map_cons, List.map_nil, zz, zk, vp, List.cons_append, List.nil_append, List.length_cons, List.length_nil, Nat.reduceAdd, Nat.reduceSub, Nat.zero_add, Bool.not_true, zm, yb, zx, za, zi, w8, xc, z6, zq, zj, zh, zg, Nat.add_zero, List.getElem?_cons_zero, Bool.bne_false, beq_self_eq_true, jq, eq_self, zt, yi, w9, laid, zt, ← hh0, xo, xq, rbb, rq, ok_0 eh0, rb, qy, qf, qi, q1, nil1, rb1, rq1, rbb1, g9, bj, jf, zro, zp2, zq0, znr, zp9, zq9, ok_0 eh1, qm, wn]
          exact ⟨trivial, ff _⟩
        · simp only [y3, z7, zr, yl, zb, zw, zu, z8, zn, ye, zc, yr, wi, zo, zf, ze, zd, List.set_cons_succ, List.set_cons_zero, O_mv, yw, xf, yu, yg, O_un, yf, List.map_cons, List.map_nil, zz, zk, vp, List.cons_append, List.nil_append, List.length_cons, List.length_nil, Nat.reduceAdd, Nat.reduceSub, Nat.zero_add, Bool.not_true, zm, yb, zx, za, zi, w8, xc, z6, zq, zj, zh, zg, Nat.add_zero, List.getElem?_cons_zero, Bool.bne_false, beq_self_eq_true, jq, eq_self, zt, yi, w9, laid, zt, ← hh0, xo, xq, rbb, rq, ok_0 eh0, rb, qy, qf, qi, q1, nil1, rb1, rq1, rbb1, g9, bj, jf, zro, zp2, zq0, znr, zp9, zq9, ok_0 eh1, qm, wn]
          exact ⟨trivial, ff _⟩
  obtain ⟨v, h', r, rfl, g⟩ := this
  exact ⟨h', r, g⟩
set_option maxHeartbeats 4000000 in
theorem ybo (P : RP) (kn : Kn) (rc : List Bys) (op : Op1) (e : Ex) (rt : Bool) (ih : zff P kn rc rt e) : zff P kn rc rt (.un op e) := by
  intro hb h i0 i q km n rm S v e0 eh ch tr cl hS
  obtain ⟨b, S', xv, rfl, hbS, hbo, tx, hs⟩ := tr
  have : ∃ v h', DF FF xn [pt q, pt b, .bool rt] h = some (v, h') ∧ (v = tup [] ∧ ChkR P i S (pt b) (e.pl) h' (chkE kn rc rt (.un op e)) ∧ Kp P S h h') := by
    refine wz qb ?_
    obtain ⟨h0, hh0⟩ : ∃ h0, h0 = h ++ [AObj.cells [pt q] 0 false] := ⟨_, rfl⟩
    have eh0 : Rd P h0 i 0 0 0 := by rw [hh0]; exact eh.more _
    have k0 : Kp P S h h0 := by rw [hh0]; exact Kp.add _ _ _ _
    have hbb : h0[h.length]? = some (.cells [pt q] 0 false) := by rw [hh0]; simp
    have lh0 : h.length < h0.length := by rw [hh0]; simp
    have ch0 := ch.kp eh k0 cl.q cl.k cl.r
    have hn : h0[b]? = some (.cells (vd (op1S op) [] e.pl xv nilP false) 0 false) := by rw [hh0]; exact xa _ hbo
    have rb : ∀ j, Heap.read1 h0 ⟨b, j, some 0⟩ = (vd (op1S op) [] e.pl xv nilP false)[j]? := fun j => we hn
    have rq : ∀ j, Heap.read1 h0 ⟨q, j, some 0⟩ = ([pt P.r, .map (some km), rm, .int .i64 (n : Int)] : List Value)[j]? := fun j => we ch0.cq
    have rbb : ∀ j, Heap.read1 h0 ⟨h.length, j, some 0⟩ = ([pt q] : List Value)[j]? := fun j => we hbb
    obtain ⟨h1, q1, r1, k1⟩ := ih hb h0 i0 i q km n rm S' xv e0 eh0 ch0 (tx.keep fun c o hc ho => by rw [hh0]; exact xa _ ho) (cl.weak fun z hz => (hs z hz).1) (fun z hz => by have := hS z (hs z hz).1; omega)
    obtain ⟨bx, x, c, t, rfl, O, hR⟩ := zuv e0 eh eh0 k0 hbb ch0 hn cl hS hbS hs r1 k1
    have eh1 := O.rd
    have nil1 := fun rt => zgd (q := q) eh1 rt
    have rb1 : ∀ j, Heap.read1 h1 ⟨b, j, some 0⟩ = (vd (op1S op) [] (e.pl) (pt bx) nilP false)[j]? := fun j => we O.nd
    have rq1 : ∀ j, Heap.read1 h1 ⟨q, j, some 0⟩ = ([pt P.r, .map (some km), rm, .int .i64 (n : Int)] : List Value)[j]? := fun j => we O.cq
    have rbb1 : ∀ j, Heap.read1 h1 ⟨h.length, j, some 0⟩ = ([pt q] : List Value)[j]? := fun j => we O.bb
    obtain ⟨op', w', l', r', hx⟩ := O.ch
    cases hc : chkE kn rc rt e with
    | bad ec ea =>
      rw [hc] at hR
      obtain ⟨hx0, rfl, rfl, e', te, hp⟩ := hR
      have hRR : chkE kn rc rt (.un op e) = .bad x c := by rw [chkE, hc]
      have f1 : ChkR P i S (pt b) (e.pl) h1 (chkE kn rc rt (.un op e)) := by rw [hRR]; exact ⟨hx0, ⟨.un op e', ⟨b, S', pt bx, rfl, hbS, by rw [hp]; exact O.nd, te, hs⟩, hp⟩, eh1⟩
      have ff := ChkR.fin eh O.kp hS f1
      cases rt <;> cases op
      all_goals
        simp only [y3, z7, zr, xe, yl, zb, zw, zu, z8, zn, ye, zc, yr, wi, zo, zf, ze, zd, List.set_cons_succ, List.set_cons_zero, O_mv, yw, xf, yu, yg, O_un, yf, List.map_cons, List.map_nil, zz, zk, vp, List.cons_append, List.nil_append, List.length_cons, List.length_nil, Nat.reduceAdd, Nat.reduceSub, Nat.zero_add, Bool.not_true, Bool.not_false, zm, yb, za, y5, w8, xc, z6, zq, zj, zh, zg, Nat.add_zero, List.getElem?_cons_zero, Bool.bne_false, jq, eq_self, zt, yi, w9, laid, zt, ← hh0, xo, xq, rbb, rq, ok_0 eh0, rb, qy, qf, qi, q1, nil1, rb1, rq1, rbb1, op1S, zu5, zu1, zod, zok, fh eh1 hx0, zey]
        exact ⟨trivial, ff _⟩
    | ok e' =>
      rw [hc] at hR
      obtain ⟨rfl, rfl, rfl, te, hp⟩ := hR
      cases hst : (e'.set == false)
      · have hRR : chkE kn rc rt (.un op e) = .bad 41 e.pl := by rw [chkE, hc]; cases h' : e'.set <;> rw [h'] at hst <;> simp_all
        obtain ⟨h2, qm, e2, m2, c2⟩ := zo1 eh1 O.cq O.bb hx hst
        have k2 := m2.kp fun o ho => by rw [c2]; exact ho
        have nd2 := k2.keep _ _ O.nd id (by have := cl.lo b hbS; have := e0.lr; omega)
        have f1 : ChkR P i S (pt b) (e.pl) h2 (chkE kn rc rt (.un op e)) := by
          rw [hRR]
          exact ⟨by omega, ⟨.un op e', ⟨b, S', pt bx, rfl, hbS, by rw [hp]; exact nd2, te.keep fun z o hz ho => k2.keep z o ho id (by have := cl.lo z (hs z hz).1; have := e0.lr; omega), hs⟩, hp⟩, e2⟩
        have ff := ChkR.fin eh ((O.kp.trans k2).weak fun z hz => hz.elim id False.elim) hS f1
        cases rt <;> cases op
        all_goals
          simp only [y3, z7, zr, yl, zb, zw, zu, z8, zn, ye, zc, yr, wi, zo, zf, ze, zd, List.set_cons_succ, List.set_cons_zero, O_mv, yw, xf, yu, yg, O_un, yf, List.map_cons, List.map_nil, zz, zk, vp, List.cons_append, List.nil_append, List.length_cons, List.length_nil, Nat.reduceAdd, Nat.reduceSub, Nat.zero_add, Bool.not_true, zm, yb, zx, za, zi, w8, xc, z6, zq, zj, zh, zg, Nat.add_zero, List.getElem?_cons_zero, Bool.bne_false, beq_self_eq_true, jq, eq_self, zt, yi, w9, laid, zt, ← hh0, xo, xq, rbb, rq, ok_0 eh0, rb, qy, qf, qi, q1, nil1, rb1, rq1, rbb1, g9, bj, jf, op1S, zw1, yae, zzz, zu5, zyt, zx9, zy3, zxp, zzr, zyl, yar, zu1, zzk, zz7, yau, zyp, zzo, zsy, ztg, zr9, zod, zrz, zsa, zsq, zsh, zsd, zsr, zsf, zs7, zsg, zok, ztx, zrs, zr0, zrw, zrt, zs1, zob, ok_0 eh1, qm, wn]
          exact ⟨trivial, ff _⟩
      · have hRR : chkE kn rc rt (.un op e) = .ok (.un op e') := by rw [chkE, hc]; cases h' : e'.set <;> rw [h'] at hst <;> simp_all
        have qm := zo3 (bb := h.length) hx
        rw [eq_of_beq hst] at qm
        have f1 : ChkR P i S (pt b) (e.pl) h1 (chkE kn rc rt (.un op e)) := by
          rw [hRR]
          exact ⟨⟨b, S', pt bx, rfl, hbS, by rw [hp]; exact O.nd, te, hs⟩, hp, eh1⟩
        have ff := ChkR.fin eh O.kp hS f1
        cases rt <;> cases op
        all_goals
          simp only [y3, z7, zr, yl, zb, zw, zu, z8, zn, ye, zc, yr, wi, zo, zf, ze, zd, List.set_cons_succ, List.set_cons_zero, O_mv, yw, xf, yu, yg, O_un, yf, List.map_cons, List.map_nil, zz, zk, vp, List.cons_append, List.nil_append, List.length_cons, List.length_nil, Nat.reduceAdd, Nat.reduceSub, Nat.zero_add, Bool.not_true, zm, yb, zx, za, zi, w8, xc, z6, zq, zj, zh, zg, Nat.add_zero, List.getElem?_cons_zero, Bool.bne_false, beq_self_eq_true, jq, eq_self, zt, yi, w9, laid, zt, ← hh0, xo, xq, rbb, rq, ok_0 eh0, rb, qy, qf, qi, q1, nil1, rb1, rq1, rbb1, g9, bj, jf, op1S, zw1, yae, zzz, zu5, zyt, zx9, zy3, zxp, zzr, zyl, yar, zu1, zzk, zz7, yau, zyp, zzo, zsy, ztg, zr9, zod, zrz, zsa, zsq, zsh, zsd, zsr, zsf, zs7, zsg, zok, ztx, zrs, zr0, zrw, zrt, zs1, zob, ok_0 eh1, qm, wn]
          exact ⟨trivial, ff _⟩
  obtain ⟨v, h', r, rfl, g⟩ := this
  exact ⟨h', r, g⟩
/-- What a part of two parts comes to, behind both. -/
structure Two (P : RP) (h h2 : Heap) (i q km n b bx by_ x c : Nat) (rm : Value) (S : Nat → Prop) (op : Bys) (a pl pr : Nat) (s tl t : Bool) : Prop where
  rd : Rd P h2 i 0 x c
  kp : Kp P S h h2
  cq : h2[q]? = some (.cells [pt P.r, .map (some km), rm, .int .i64 (n : Int)] 0 false)
  bb : h2[h.length]? = some (.cells [pt q] 0 false)
  nd : h2[b]? = some (.cells (vd op [] a (pt bx) (pt by_) s) 0 false)
  cl : ∃ op' w' l' r', h2[bx]? = some (.cells (vd op' w' pl l' r' tl) 0 false)
  cr : ∃ op' w' l' r', h2[by_]? = some (.cells (vd op' w' pr l' r' t) 0 false)
theorem yg3 {P : RP} {hb h h0 h1 h2 : Heap} {i0 i q km n b bx : Nat} {rm yv : Value} {kn : Kn} {rc : List Bys} {S S1 S2 : Nat → Prop} {op : Bys} {a pl : Nat} {s : Bool} {l' r : Ex} {R : CR Ex} (e0 : Rd P hb i0 0 0 0) (eh : Rd P h i 0 0 0)
    (O : One P h h0 h1 i q km n b bx 0 0 rm kn rc S op a yv s l'.set pl) (tl : TreeP h1 S1 (pt bx) l') (hbx : l'.pl = pl) (cl : Cl P hb q km rm S) (hS : ∀ z, S z → z < h.length) (hbS : S b) (hs1 : ∀ z, S1 z → S z ∧ z ≠ b ∧ ¬ S2 z) (hs : ∀ y, S2 y → S y ∧ y ≠ b) (r1 : ChkR P i S2 yv r.pl h2 R) (k1 : Kp P S2 h1 h2) :
    ∃ by_ x c t, yv = pt by_ ∧ Two P h h2 i q km n b bx by_ x c rm S op a pl r.pl s l'.set t ∧ OneR h2 S2 by_ r.pl x c t R ∧ TreeP h2 S1 (pt bx) l' := by
  have nr : ∀ z, hb.length ≤ z → z ≠ P.r := fun z hz => by have := e0.lr; omega
  have kp : Kp P S h h2 := (O.kp.trans k1).weak fun z hz => hz.elim id fun h => (hs z h).1
  have nq : q ≠ P.r := by rintro rfl; have := O.rd.hr.symm.trans O.cq; simp at this
  have cq1 := k1.keep _ _ O.cq (fun h => cl.q (hs _ h).1) nq
  have bb1 := k1.keep _ _ O.bb (fun h => by have := hS _ (hs _ h).1; omega) (by have := eh.lr; omega)
  have nd1 := k1.keep _ _ O.nd (fun h => (hs _ h).2 rfl) (nr b (cl.lo b hbS))
  have tl2 : TreeP h2 S1 (pt bx) l' := tl.keep fun z o hz ho => k1.keep z o ho (hs1 z hz).2.2 (nr z (cl.lo z (hs1 z hz).1))
  obtain ⟨b', op1, w1, l1, r1', hpb, _, hbx2⟩ := tl2.root
  have hpb : bx = b' := by simpa using hpb
  subst hpb
  rw [hbx] at hbx2
  cases R with
  | ok e' =>
    obtain ⟨t, hp, e1⟩ := r1
    obtain ⟨by_, op', w', l'', r', rfl, _, hby⟩ := t.root
    rw [hp] at hby
    exact ⟨by_, 0, 0, e'.set, rfl, ⟨e1, kp, cq1, bb1, nd1, ⟨_, _, _, _, hbx2⟩, _, _, _, _, hby⟩, ⟨rfl, rfl, rfl, t, hp⟩, tl2⟩
  | bad x c =>
    obtain ⟨hx, ⟨e', t, hp⟩, e1⟩ := r1
    obtain ⟨by_, op', w', l'', r', rfl, _, hby⟩ := t.root
    rw [hp] at hby
    exact ⟨by_, x, c, e'.set, rfl, ⟨e1, kp, cq1, bb1, nd1, ⟨_, _, _, _, hbx2⟩, _, _, _, _, hby⟩, ⟨hx, rfl, rfl, e', t, hp⟩, tl2⟩
theorem zoz {P : RP} {h : Heap} {i q bb : Nat} {km rm nn : Value} (e : Rd P h i 0 0 0) (hq : h[q]? = some (.cells [pt P.r, km, rm, nn] 0 false)) (hbb : h[bb]? = some (.cells [pt q] 0 false)) {b : Nat} {op w : Bys} {p : Nat} {l r : Value} {s : Bool} (t : Bool) (hb : h[b]? = some (.cells (vd op w p l r s) 0 false)) :
    ∃ h' x c, DF FF wj [pt b, .bool t, pt bb] h = some (tup [], h') ∧ Rd P h' i 0 x c ∧ Kp P (fun _ => False) h h' ∧ ((s == t) = true ∧ x = 0 ∧ c = 0 ∨ (s == t) = false ∧ x = 41 ∧ c = p) := by
  cases hst : (s == t)
  · obtain ⟨h2, qm, e2, m2, c2⟩ := zo1 e hq hbb hb hst
    exact ⟨h2, 41, p, qm, e2, m2.kp fun o ho => by rw [c2]; exact ho, .inr ⟨rfl, rfl, rfl⟩⟩
  · have qm := zo3 (bb := bb) hb
    rw [eq_of_beq hst] at qm
    exact ⟨h, 0, 0, qm, e, Kp.refl _ _ _, .inl ⟨rfl, rfl, rfl⟩⟩
set_option maxHeartbeats 8000000 in
theorem zxu (P : RP) (kn : Kn) (rc : List Bys) (s : Bool) (o : Op2) (l r : Ex) (rt : Bool) (ihl : zff P kn rc rt l) (ihr : zff P kn rc (rt || o == .minus) r) : zff P kn rc rt (.bin s o l r) := by
  intro hb h i0 i q km n rm S v e0 eh ch tr cl hS
  obtain ⟨b, S1, S2, xv, yv, rfl, hbS, hbo, tx, ty, hs1, hs2⟩ := tr
  have : ∃ v h', DF FF xn [pt q, pt b, .bool rt] h = some (v, h') ∧ (v = tup [] ∧ ChkR P i S (pt b) l.pl h' (chkE kn rc rt (.bin s o l r)) ∧ Kp P S h h') := by
    refine wz qb ?_
    obtain ⟨h0, hh0⟩ : ∃ h0, h0 = h ++ [AObj.cells [pt q] 0 false] := ⟨_, rfl⟩
    have eh0 : Rd P h0 i 0 0 0 := by rw [hh0]; exact eh.more _
    have k0 : Kp P S h h0 := by rw [hh0]; exact Kp.add _ _ _ _
    have hbb : h0[h.length]? = some (.cells [pt q] 0 false) := by rw [hh0]; simp
    have lh0 : h.length < h0.length := by rw [hh0]; simp
    have ch0 := ch.kp eh k0 cl.q cl.k cl.r
    have hn : h0[b]? = some (.cells (vd (op2S o) [] l.pl xv yv s) 0 false) := by rw [hh0]; exact xa _ hbo
    have rb : ∀ j, Heap.read1 h0 ⟨b, j, some 0⟩ = (vd (op2S o) [] l.pl xv yv s)[j]? := fun j => we hn
    have rq : ∀ j, Heap.read1 h0 ⟨q, j, some 0⟩ = ([pt P.r, .map (some km), rm, .int .i64 (n : Int)] : List Value)[j]? := fun j => we ch0.cq
    have rbb : ∀ j, Heap.read1 h0 ⟨h.length, j, some 0⟩ = ([pt q] : List Value)[j]? := fun j => we hbb
    have nr : ∀ z, hb.length ≤ z → z ≠ P.r := fun z hz => by have := e0.lr; omega
    have ty0 : TreeP h0 S2 yv r := ty.keep fun c o hc ho => by rw [hh0]; exact xa _ ho
    obtain ⟨h1, q1, r1, k1⟩ := ihl hb h0 i0 i q km n rm S1 xv e0 eh0 ch0 (tx.keep fun c o hc ho => by rw [hh0]; exact xa _ ho) (cl.weak fun z hz => (hs1 z hz).1) (fun z hz => by have := hS z (hs1 z hz).1; omega)
    have ty1 : TreeP h1 S2 yv r := ty0.keep fun z o hz ho => k1.keep z o ho (fun h => (hs1 z h).2.2 hz) (nr z (cl.lo z (hs2 z hz).1))
    obtain ⟨bx, x, c, t, rfl, O, hR⟩ := zuv e0 eh eh0 k0 hbb ch0 hn cl hS hbS (fun z hz => ⟨(hs1 z hz).1, (hs1 z hz).2.1⟩) r1 k1
    have eh1 := O.rd
    have rb1 : ∀ j, Heap.read1 h1 ⟨b, j, some 0⟩ = (vd (op2S o) [] l.pl (pt bx) yv s)[j]? := fun j => we O.nd
    have rq1 : ∀ j, Heap.read1 h1 ⟨q, j, some 0⟩ = ([pt P.r, .map (some km), rm, .int .i64 (n : Int)] : List Value)[j]? := fun j => we O.cq
    have rbb1 : ∀ j, Heap.read1 h1 ⟨h.length, j, some 0⟩ = ([pt q] : List Value)[j]? := fun j => we O.bb
    obtain ⟨by_, _, _, _, _, rfl, _, _⟩ := ty1.root
    cases hc : chkE kn rc rt l with
    | bad ec ea =>
      rw [hc] at hR
      obtain ⟨hx0, rfl, rfl, l', tl, hp⟩ := hR
      have hRR : chkE kn rc rt (.bin s o l r) = .bad x c := by rw [chkE, hc]
      have qn := fun rt => zuw eh1 hx0 O.cq by_ rt
      have f1 : ChkR P i S (pt b) l.pl h1 (chkE kn rc rt (.bin s o l r)) := by
        rw [hRR]
        exact ⟨hx0, ⟨.bin s o l' r, ⟨b, S1, S2, pt bx, pt by_, rfl, hbS, by rw [hp]; exact O.nd, tl, ty1, hs1, hs2⟩, hp⟩, eh1⟩
      have ff := ChkR.fin eh O.kp hS f1
      cases rt <;> cases o
      all_goals
        simp only [y3, z7, zr, xe, yl, zb, zw, zu, z8, zn, ye, zc, yr, wi, zo, zf, ze, zd, List.set_cons_succ, List.set_cons_zero, O_mv, yw, xf, yu, yg, O_un, yf, List.map_cons, List.map_nil, zz, zk, vp, List.cons_append, List.nil_append, List.length_cons, List.length_nil, Nat.reduceAdd, Nat.reduceSub, Nat.zero_add, Bool.not_true, Bool.not_false, zm, yb, za, y5, w8, xc, z6, zq, zj, zh, zg, Nat.add_zero, List.getElem?_cons_zero, Bool.bne_false, beq_self_eq_true, jq, eq_self, zt, yi, w9, laid, zt, ← hh0, xo, xq, rbb, rq, ok_0 eh0, rb, qy, qf, qi, q1, rb1, rq1, rbb1, op2S, zy4, zxx, zub, zt1, qn, fh eh1 hx0, zey]
        exact ⟨trivial, ff _⟩
    | ok l' =>
      rw [hc] at hR
      obtain ⟨rfl, rfl, rfl, tl, hp⟩ := hR
      have ch1 := ch0.kp eh0 k1 (fun h => cl.q (hs1 _ h).1) (fun h => cl.k (hs1 _ h).1) (fun b hb h => cl.r b hb (hs1 _ h).1)
      obtain ⟨h2, q2, r2, k2⟩ := ihr hb h1 i0 i q km n rm S2 (pt by_) e0 eh1 ch1 ty1 (cl.weak fun z hz => (hs2 z hz).1) (fun z hz => by have := hS z (hs2 z hz).1; have := O.kp.le; omega)
      obtain ⟨by2, x, c, t, hby, W, hR2, tl2⟩ := yg3 e0 eh O tl hp cl hS hbS hs1 hs2 r2 k2
      have hby : by_ = by2 := by simpa using hby
      subst hby
      have eh2 := W.rd
      have rb2 : ∀ j, Heap.read1 h2 ⟨b, j, some 0⟩ = (vd (op2S o) [] l.pl (pt bx) (pt by_) s)[j]? := fun j => we W.nd
      have rq2 : ∀ j, Heap.read1 h2 ⟨q, j, some 0⟩ = ([pt P.r, .map (some km), rm, .int .i64 (n : Int)] : List Value)[j]? := fun j => we W.cq
      have rbb2 : ∀ j, Heap.read1 h2 ⟨h.length, j, some 0⟩ = ([pt q] : List Value)[j]? := fun j => we W.bb
      cases hc2 : chkE kn rc (rt || o == .minus) r with
      | bad ec ea =>
        rw [hc2] at hR2
        obtain ⟨hx0, rfl, rfl, r', tr', hpr⟩ := hR2
        have hRR : chkE kn rc rt (.bin s o l r) = .bad x c := by rw [chkE, hc]; simp only [hc2]
        have f1 : ChkR P i S (pt b) l.pl h2 (chkE kn rc rt (.bin s o l r)) := by
          rw [hRR]
          exact ⟨hx0, ⟨.bin s o l' r', ⟨b, S1, S2, pt bx, pt by_, rfl, hbS, by rw [hp]; exact W.nd, tl2, tr', hs1, hs2⟩, hp⟩, eh2⟩
        have ff := ChkR.fin eh W.kp hS f1
        cases rt <;> cases o
        all_goals
          simp only [show (Op2.or == Op2.minus) = false from rfl, show (Op2.and == Op2.minus) = false from rfl, show (Op2.minus == Op2.minus) = true from rfl, show (Op2.seq == Op2.minus) = false from rfl, show (Op2.cross == Op2.minus) = false from rfl, Bool.or_false, Bool.or_true] at q2
          simp only [y3, z7, zr, xe, yl, zb, zw, zu, z8, zn, ye, zc, yr, wi, zo, zf, ze, zd, List.set_cons_succ, List.set_cons_zero, O_mv, yw, xf, yu, yg, O_un, yf, List.map_cons, List.map_nil, zz, zk, vp, List.cons_append, List.nil_append, List.length_cons, List.length_nil, Nat.reduceAdd, Nat.reduceSub, Nat.zero_add, Bool.not_true, Bool.not_false, zm, yb, za, y5, w8, xc, z6, zq, zj, zh, zg, Nat.add_zero, List.getElem?_cons_zero, Bool.bne_false, beq_self_eq_true, jq, eq_self, zt, yi, w9, laid, zt, ← hh0, xo, xq, rbb, rq, ok_0 eh0, rb, qy, qf, qi, q1, rb1, rbb1, op2S, zy4, zxx, zub, zt1, q2, rbb2, rq2, fh eh2 hx0, zey]
          exact ⟨trivial, ff _⟩
      | ok r' =>
        rw [hc2] at hR2
        obtain ⟨rfl, rfl, rfl, tr', hpr⟩ := hR2
        obtain ⟨opl, wl, ll, rl, hcl⟩ := W.cl
        obtain ⟨opr, wr, lr', rr', hcr⟩ := W.cr
        have lb2 := (List.getElem?_eq_some_iff.1 W.nd).1
        have same : (o = .or ∨ o = .and ∨ o = .minus) → ∃ h3, DF FF wj [pt by_, .bool l'.set, pt h.length] h2 = some (tup [], h3) ∧ (∀ j, Heap.read1 h3 ⟨b, j, some 0⟩ = (vd (op2S o) [] l.pl (pt bx) (pt by_) s)[j]?) ∧ Heap.read1 h3 ⟨bx, 5, some 0⟩ = some (.bool l'.set) ∧
            Heap.write1 h3 ⟨b, 5, some 0⟩ (.bool l'.set) = some (h3.set b (.cells (vd (op2S o) [] l.pl (pt bx) (pt by_) l'.set) 0 false)) ∧ ∀ w, ChkR P i S (pt b) l.pl (AM.finish h w (h3.set b (.cells (vd (op2S o) [] l.pl (pt bx) (pt by_) l'.set) 0 false))) (chkE kn rc rt (.bin s o l r)) ∧ Kp P S h (AM.finish h w (h3.set b (.cells (vd (op2S o) [] l.pl (pt bx) (pt by_) l'.set) 0 false))) := by
          intro ho
          obtain ⟨h3, x3, c3, qm, e3, k3, hx⟩ := zoz eh2 W.cq W.bb l'.set hcr
          have nd3 := k3.keep _ _ W.nd id (nr b (cl.lo b hbS))
          have lb3 := (List.getElem?_eq_some_iff.1 nd3).1
          have bx3 := k3.keep _ _ hcl id (by
              obtain ⟨b', _, _, _, _, hpb, hbS1, _⟩ := tl2.root; have hpb : bx = b' := by simpa using hpb
              subst hpb; exact nr _ (cl.lo _ (hs1 _ hbS1).1))
          have k3' : Kp P S h h3 := (W.kp.trans k3).weak fun z hz => hz.elim id False.elim
          refine ⟨h3, qm, fun j => we nd3, we bx3, by rw [ph nd3 (by simp [vd]), zjl], fun w => ChkR.fin eh (k3'.set hbS _) hS ?_ w⟩
          have tree : TreeP (h3.set b (.cells (vd (op2S o) [] l.pl (pt bx) (pt by_) l'.set) 0 false)) S (pt b) (.bin l'.set o l' r') :=
            ⟨b, S1, S2, pt bx, pt by_, rfl, hbS, by rw [hp]; exact List.getElem?_set_self lb3, tl2.keep fun z o hz ho => by
              rw [List.getElem?_set_ne (Ne.symm (hs1 z hz).2.1)]; exact k3.keep z o ho id (nr z (cl.lo z (hs1 z hz).1)), tr'.keep fun z o hz ho => by
              rw [List.getElem?_set_ne (Ne.symm (hs2 z hz).2)]; exact k3.keep z o ho id (nr z (cl.lo z (hs2 z hz).1)), hs1, hs2⟩
          have e3' := e0.node e3 (cl.lo b hbS) (.cells (vd (op2S o) [] l.pl (pt bx) (pt by_) l'.set) 0 false)
          rcases hx with ⟨hst, rfl, rfl⟩ | ⟨hst, rfl, rfl⟩
          · have hRR : chkE kn rc rt (.bin s o l r) = .ok (.bin l'.set o l' r') := by
              rw [chkE, hc]; simp only [hc2]
              have : (r'.set != l'.set) = false := by rw [bne, hst]; rfl
              rcases ho with rfl | rfl | rfl <;> simp only [this, Bool.false_eq_true, if_false]
            rw [hRR]
            exact ⟨tree, hp, e3'⟩
          · have hRR : chkE kn rc rt (.bin s o l r) = .bad 41 r.pl := by
              rw [chkE, hc]; simp only [hc2]
              have : (r'.set != l'.set) = true := by rw [bne, hst]; rfl
              rcases ho with rfl | rfl | rfl <;> simp only [this, if_true]
            rw [hRR]
            exact ⟨by omega, ⟨_, tree, hp⟩, e3'⟩
        have each : ∀ k : Bool, (o = .seq ∧ k = false ∨ o = .cross ∧ k = true) → ∃ h3 h4, DF FF wj [pt bx, .bool k, pt h.length] h2 = some (tup [], h3) ∧ (∀ j, Heap.read1 h3 ⟨b, j, some 0⟩ = (vd (op2S o) [] l.pl (pt bx) (pt by_) s)[j]?) ∧ DF FF wj [pt by_, .bool k, pt h.length] h3 = some (tup [], h4) ∧
            ∀ w, ChkR P i S (pt b) l.pl (AM.finish h w h4) (chkE kn rc rt (.bin s o l r)) ∧ Kp P S h (AM.finish h w h4) := by
          intro k ho
          obtain ⟨h3, x3, c3, qm, e3, k3, hx⟩ := zoz eh2 W.cq W.bb k hcl
          have nq : q ≠ P.r := by rintro rfl; have := W.rd.hr.symm.trans W.cq; simp at this
          have hbl : h.length ≠ P.r := by have := eh.lr; omega
          have hbyS : by_ ≠ P.r := by
              obtain ⟨b', _, _, _, _, hpb, hbS1, _⟩ := tr'.root; have hpb : by_ = b' := by simpa using hpb
              subst hpb; exact nr _ (cl.lo _ (hs2 _ hbS1).1)
          have nd3 := k3.keep _ _ W.nd id (nr b (cl.lo b hbS))
          have cq3 := k3.keep _ _ W.cq id nq
          have bb3 := k3.keep _ _ W.bb id hbl
          have cr3 := k3.keep _ _ hcr id hbyS
          have tree : ∀ h4, Kp P (fun _ => False) h3 h4 → ∀ s', s' = s → TreeP h4 S (pt b) (.bin s' o l' r') := fun h4 k4 s' hs' => by
            subst hs'
            have kk := k3.trans k4
            exact ⟨b, S1, S2, pt bx, pt by_, rfl, hbS, by rw [hp]; exact kk.keep _ _ W.nd (fun h => h.elim id id) (nr b (cl.lo b hbS)), tl2.keep fun z o hz ho => kk.keep z o ho (fun h => h.elim id id) (nr z (cl.lo z (hs1 z hz).1)), tr'.keep fun z o hz ho => kk.keep z o ho (fun h => h.elim id id) (nr z (cl.lo z (hs2 z hz).1)), hs1, hs2⟩
          have kph : ∀ h4, Kp P (fun _ => False) h3 h4 → Kp P S h h4 := fun h4 k4 => ((W.kp.trans k3).trans k4).weak fun z hz => hz.elim (fun h => h.elim id False.elim) False.elim
          rcases hx with ⟨hst, rfl, rfl⟩ | ⟨hst, rfl, rfl⟩
          · obtain ⟨h4, x4, c4, qm4, e4, k4, hx4⟩ := zoz e3 cq3 bb3 k cr3
            refine ⟨h3, h4, qm, fun j => we nd3, qm4, fun w => ChkR.fin eh (kph h4 k4) hS ?_ w⟩
            rcases hx4 with ⟨hst4, rfl, rfl⟩ | ⟨hst4, rfl, rfl⟩
            · have hRR : chkE kn rc rt (.bin s o l r) = .ok (.bin s o l' r') := by
                rw [chkE, hc]; simp only [hc2]
                rcases ho with ⟨rfl, rfl⟩ | ⟨rfl, rfl⟩ <;> (cases h' : l'.set <;> cases h'' : r'.set <;> simp_all)
              rw [hRR]
              exact ⟨tree h4 k4 s rfl, hp, e4⟩
            · have hRR : chkE kn rc rt (.bin s o l r) = .bad 41 r.pl := by
                rw [chkE, hc]; simp only [hc2]
                rcases ho with ⟨rfl, rfl⟩ | ⟨rfl, rfl⟩ <;> (cases h' : l'.set <;> cases h'' : r'.set <;> simp_all)
              rw [hRR]
              exact ⟨by omega, ⟨_, tree h4 k4 s rfl, hp⟩, e4⟩
          · have qm4 := yej e3 (by omega) cq3 bb3 k cr3
            refine ⟨h3, h3, qm, fun j => we nd3, qm4, fun w => ChkR.fin eh (kph h3 (Kp.refl _ _ _)) hS ?_ w⟩
            have hRR : chkE kn rc rt (.bin s o l r) = .bad 41 l.pl := by
              rw [chkE, hc]; simp only [hc2]
              rcases ho with ⟨rfl, rfl⟩ | ⟨rfl, rfl⟩ <;> (cases h' : l'.set <;> simp_all)
            rw [hRR]
            exact ⟨by omega, ⟨_, tree h3 (Kp.refl _ _ _) s rfl, hp⟩, e3⟩
        have rbx2 : Heap.read1 h2 ⟨bx, 5, some 0⟩ = some (.bool l'.set) := we hcl
        cases o
        · obtain ⟨h3, qm, rb3, rx3, wb, ff⟩ := same (by simp)
          cases rt
          all_goals
            simp only [show (Op2.or == Op2.minus) = false from rfl, Bool.or_false] at q2
            simp only [y3, z7, zr, yl, zb, zw, zu, z8, zn, ye, zc, zp, yr, wi, zo, zf, ze, zd, List.set_cons_succ, List.set_cons_zero, O_mv, yw, xf, yu, yg, O_un, yf, List.map_cons, List.map_nil, zz, zk, vp, List.cons_append, List.nil_append, List.length_cons, List.length_nil, Nat.reduceAdd, Nat.reduceSub, Nat.zero_add, Bool.not_true, zm, yb, zx, za, zi, w8, xc, z6, zl, xd, fe, zq, zj, zh, zg, Nat.add_zero, List.getElem?_cons_zero, Bool.bne_false, beq_self_eq_true, jq, eq_self, zt, yi, w9, laid, zt, ← hh0, xo, xq, rbb, rq, ok_0 eh0, rb, qy, qf, qi, q1, rb1, rbb1, op2S, ydx, zy4, q2, rbb2, rq2, rb2, ok_0 eh2, g9, bj, jf, rbx2, qm, rb3, rx3, wb, wn]
            exact ⟨trivial, ff _⟩
        · obtain ⟨h3, qm, rb3, rx3, wb, ff⟩ := same (by simp)
          cases rt
          all_goals
            simp only [show (Op2.and == Op2.minus) = false from rfl, Bool.or_false] at q2
            simp only [y3, z7, zr, yl, zb, zw, zu, z8, zn, ye, zc, zp, yr, wi, zo, zf, ze, zd, List.set_cons_succ, List.set_cons_zero, O_mv, yw, xf, yu, yg, O_un, yf, List.map_cons, List.map_nil, zz, zk, vp, List.cons_append, List.nil_append, List.length_cons, List.length_nil, Nat.reduceAdd, Nat.reduceSub, Nat.zero_add, Bool.not_true, zm, yb, zx, za, zi, w8, xc, z6, zl, xd, fe, zq, zj, zh, zg, Nat.add_zero, List.getElem?_cons_zero, Bool.bne_false, beq_self_eq_true, jq, eq_self, zt, yi, w9, laid, zt, ← hh0, xo, xq, rbb, rq, ok_0 eh0, rb, qy, qf, qi, q1, rb1, rbb1, op2S, yd9, yd5, zxx, q2, rbb2, rq2, rb2, ok_0 eh2, g9, bj, jf, rbx2, qm, rb3, rx3, wb, wn]
            exact ⟨trivial, ff _⟩
        · obtain ⟨h3, qm, rb3, rx3, wb, ff⟩ := same (by simp)
          cases rt
          all_goals
            simp only [show (Op2.minus == Op2.minus) = true from rfl, Bool.or_true] at q2
            simp only [y3, z7, zr, yl, zb, zw, zu, z8, zn, ye, zc, zp, yr, wi, zo, zf, ze, zd, List.set_cons_succ, List.set_cons_zero, O_mv, yw, xf, yu, yg, O_un, yf, List.map_cons, List.map_nil, zz, zk, vp, List.cons_append, List.nil_append, List.length_cons, List.length_nil, Nat.reduceAdd, Nat.reduceSub, Nat.zero_add, Bool.not_true, zm, yb, zx, za, zi, w8, xc, z6, zl, xd, fe, zq, zj, zh, zg, Nat.add_zero, List.getElem?_cons_zero, Bool.bne_false, beq_self_eq_true, jq, eq_self, zt, yi, w9, laid, zt, ← hh0, xo, xq, rbb, rq, ok_0 eh0, rb, qy, qf, qi, q1, rb1, rbb1, op2S, ydd, ydg, ydt, q2, rbb2, rq2, rb2, ok_0 eh2, g9, bj, jf, rbx2, qm, rb3, rx3, wb, wn]
            exact ⟨trivial, ff _⟩
        · obtain ⟨h3, h4, qm, rb3, qm4, ff⟩ := each false (by simp)
          cases rt
          all_goals
            simp only [show (Op2.seq == Op2.minus) = false from rfl, Bool.or_false] at q2
            simp only [y3, z7, zr, yl, zb, zw, zu, z8, zn, ye, zc, yr, wi, zo, zf, ze, zd, List.set_cons_succ, List.set_cons_zero, O_mv, yw, xf, yu, yg, O_un, yf, List.map_cons, List.map_nil, zz, zk, vp, List.cons_append, List.nil_append, List.length_cons, List.length_nil, Nat.reduceAdd, Nat.reduceSub, Nat.zero_add, Bool.not_true, zm, yb, zx, za, zi, w8, xc, z6, zq, zj, zh, zg, Nat.add_zero, List.getElem?_cons_zero, Bool.bne_false, beq_self_eq_true, jq, eq_self, zt, yi, w9, laid, zt, ← hh0, xo, xq, rbb, rq, ok_0 eh0, rb, qy, qf, qi, q1, rb1, rbb1, op2S, yd4, yd1, ydj, zub, q2, rbb2, rq2, rb2, ok_0 eh2, g9, bj, jf, qm, rb3, qm4, wn]
            exact ⟨trivial, ff _⟩
        · obtain ⟨h3, h4, qm, rb3, qm4, ff⟩ := each true (by simp)
          cases rt
          all_goals
            simp only [show (Op2.cross == Op2.minus) = false from rfl, Bool.or_false] at q2
            simp only [y3, z7, zr, yl, zb, zw, zu, z8, zn, ye, zc, yr, wi, zo, zf, ze, zd, List.set_cons_succ, List.set_cons_zero, O_mv, yw, xf, yu, yg, O_un, yf, List.map_cons, List.map_nil, zz, zk, vp, List.cons_append, List.nil_append, List.length_cons, List.length_nil, Nat.reduceAdd, Nat.reduceSub, Nat.zero_add, Bool.not_true, zm, yb, zx, za, zi, w8, xc, z6, zq, zj, zh, zg, Nat.add_zero, List.getElem?_cons_zero, Bool.bne_false, beq_self_eq_true, jq, eq_self, zt, yi, w9, laid, zt, ← hh0, xo, xq, rbb, rq, ok_0 eh0, rb, qy, qf, qi, q1, rb1, rbb1, op2S, yde, ydn, ydf, zt1, ydr, q2, rbb2, rq2, rb2, ok_0 eh2, g9, bj, jf, qm, rb3, qm4, wn]
            exact ⟨trivial, ff _⟩
  obtain ⟨v, h', r, rfl, g⟩ := this
  exact ⟨h', r, g⟩
theorem zhr (P : RP) (kn : Kn) (rc : List Bys) : ∀ (e : Ex) (rt : Bool), zff P kn rc rt e
  | .name s a w, rt => zv0 P kn rc s a w rt
  | .zero a, rt => zwl P kn rc a rt
  | .par s a e, rt => zw9 P kn rc s a e rt (zhr P kn rc e rt)
  | .box a e, rt => zxr P kn rc a e rt (zhr P kn rc e rt)
  | .un o e, rt => ybo P kn rc o e rt (zhr P kn rc e rt)
  | .bin s o l r, rt => zxu P kn rc s o l r rt (zhr P kn rc l rt) (zhr P kn rc r (rt || o == .minus))
theorem zww (l : List Bys) (w : Bys) (h : l.contains w = false) : px .str (str w) (.bool true) (rcE l) = some (rcE (l ++ [w])) := by
  have := zrx (fun _ => Value.bool true) w () (l.map fun w => (w, ())) (by rw [zn9, h]; rfl)
  rw [rcE, this, rcE]; simp
theorem znw (w : Bys) : ∀ l : List Bys, l.contains w = true → px .str (str w) (.bool true) (rcE l) = some (rcE l)
  | [], h => by cases h
  | v :: l, h => by
    rw [List.contains_cons] at h
    have e : rcE (v :: l) = (str v, .bool true) :: rcE l := rfl
    rw [e, px, zno]
    cases hv : (w == v)
    · rw [hv, Bool.false_or] at h
      simp only
      rw [znw w l h]; rfl
    · rw [eq_of_beq hv]
def zld (l : List Bys) (w : Bys) : List Bys := if l.contains w then l else l ++ [w]
theorem yf3 (l : List Bys) (w : Bys) : px .str (str w) (.bool true) (rcE l) = some (rcE (zld l w)) := by
  unfold zld
  cases h : l.contains w
  · exact zww l w h
  · exact znw w l h
theorem zi3 {kn : Kn} {w : Bys} (h : ji kn w = none) (b : Bool) : px .str (str w) (.bool b) (knE kn) = some (knE (kn ++ [(w, b)])) := by
  rw [zgo, Option.map_eq_none_iff] at h
  have := zrx (fun b => Value.bool b) w b kn h
  exact this
theorem zni {w : Bys} {b : Bool} : ∀ {kn : Kn}, ji kn w = some b → px .str (str w) (.bool b) (knE kn) = some (knE kn)
  | [], h => by cases h
  | (v, s) :: kn, h => by
    rw [ji] at h
    have e : knE ((v, s) :: kn) = (str v, .bool s) :: knE kn := rfl
    rw [e, px, zno]
    cases hv : (w == v)
    · rw [hv] at h
      simp only [Bool.false_eq_true, if_false] at h
      simp only
      rw [zni h]; rfl
    · rw [hv] at h
      simp only [if_true] at h
      cases h
      rw [eq_of_beq hv]
def ze2 (kn : Kn) (here : List Bys) (n x : Nat) (w : Bys) : Nat := if x ≠ 0 then x else if (ji kn w).isSome || here.contains w then 42 else if 64 ≤ n then 2 else 0
def zeo (kn : Kn) (here : List Bys) (n x a p : Nat) (w : Bys) : Nat := if x ≠ 0 then a else if (ji kn w).isSome || here.contains w then p else if 64 ≤ n then p else 0
def KpO (P : RP) (N : Nat → Prop) (h h' : Heap) : Prop := (∀ (b : Nat) (o : AObj), h[b]? = some o → ¬ N b → b ≠ P.r → h'[b]? = some o) ∧ h.length ≤ h'.length
theorem zh1 {P : RP} {h : Heap} {i x a : Nat} (e : Rd P h i 0 x a) (c p : Nat) (hc : c ≠ 0) : ∃ h', DF FF x8 [pt P.r, .int .i64 (c : Int), .int .i64 (p : Int)] h = some (tup [], h') ∧ Rd P h' i 0 (if x ≠ 0 then x else c) (if x ≠ 0 then a else p) ∧ Kp P (fun _ => False) h h' := by
  by_cases hx : x = 0
  · subst hx
    obtain ⟨h', q, e', m⟩ := zjx e c p hc
    exact ⟨h', q, by simpa using e', m.kp fun o ho => by rw [e'.hc, ← e.hc]; exact ho⟩
  · refine ⟨h, zk5 e hx _ _, ?_, Kp.refl _ _ _⟩
    rw [if_pos hx, if_pos hx]; exact e
set_option maxHeartbeats 2000000 in
theorem ygh {P : RP} {hb h : Heap} {i0 i x a q km hm n : Nat} {rm v : Value} {kn : Kn} {here : List Bys} {w : Bys} {p : Nat} (eb : Rd P hb i0 0 0 0) (hqb : hb.length ≤ q) (hhb : hb.length ≤ hm) (e : Rd P h i 0 x a) (hx : x = 0 → a = 0) (hq : h[q]? = some (.cells [pt P.r, .map (some km), rm, .int .i64 (n : Int)] 0 false)) (hk : h[km]? = some (.map (knE kn))) (hh : h[hm]? = some (.map (rcE here))) (hn : n < 1000000) (hv : ∃ b, v = pt b) :
    ∃ h', DF FF gv [pt q, agg [str w, .int .i64 (p : Int), v], .map (some hm)] h = some (tup [], h') ∧ Rd P h' i 0 (ze2 kn here n x w) (zeo kn here n x a p w) ∧ h'[q]? = some (.cells [pt P.r, .map (some km), rm, .int .i64 ((n + 1 : Nat) : Int)] 0 false) ∧ h'[hm]? = some (.map (rcE (zld here w))) ∧ KpO P (fun z => z = q ∨ z = hm) h h' := by
  have nq : q ≠ P.r := by rintro rfl; have := e.hr.symm.trans hq; simp at this
  have nk : km ≠ P.r := by rintro rfl; have := e.hr.symm.trans hk; simp at this
  have nh : hm ≠ P.r := by rintro rfl; have := e.hr.symm.trans hh; simp at this
  have qc : q ≠ P.c := by rintro rfl; have := e.hc.symm.trans hq; simp at this
  have hc : hm ≠ P.c := by rintro rfl; have := e.hc.symm.trans hh; simp at this
  have qh : q ≠ hm := by rintro rfl; have := hq.symm.trans hh; simp at this
  have : ∃ v' h', DF FF gv [pt q, agg [str w, .int .i64 (p : Int), v], .map (some hm)] h = some (v', h') ∧ (v' = tup [] ∧ Rd P h' i 0 (ze2 kn here n x w) (zeo kn here n x a p w) ∧ h'[q]? = some (.cells [pt P.r, .map (some km), rm, .int .i64 ((n + 1 : Nat) : Int)] 0 false) ∧ h'[hm]? = some (.map (rcE (zld here w))) ∧ KpO P (fun z => z = q ∨ z = hm) h h') := by
    refine wz zh9 ?_
    obtain ⟨vb, rfl⟩ := hv
    obtain ⟨h0, hh0⟩ : ∃ h0, h0 = h ++ [AObj.cells [str w, .int .i64 (p : Int), pt vb] 0 false] := ⟨_, rfl⟩
    have e0 : Rd P h0 i 0 x a := by rw [hh0]; exact e.more _
    have k0 : Kp P (fun _ => False) h h0 := by rw [hh0]; exact Kp.add _ _ _ _
    have g0 : h0[h.length]? = some (.cells [str w, .int .i64 (p : Int), pt vb] 0 false) := by rw [hh0]; simp
    have lr := e.lr
    have q0 := k0.keep _ _ hq id nq
    have kk0 := k0.keep _ _ hk id nk
    have hh0' := k0.keep _ _ hh id nh
    have c1 : ((64 : Int) ≤ (n : Int)) = (64 ≤ n) := by apply propext; omega
    have w1 : IntKind.i64.wrap ((n : Int) + 1) = ((n + 1 : Nat) : Int) := xm (by omega)
    have last : ∀ (K : Heap) (x' a' : Nat), Rd P K i 0 x' a' → Kp P (fun _ => False) h0 K → x' = ze2 kn here n x w → a' = zeo kn here n x a p w →
        Heap.read1 K ⟨q, 3, some 0⟩ = some (.int .i64 (n : Int)) ∧ ∃ K1 K2, Heap.write1 K ⟨q, 3, some 0⟩ (.int .i64 ((n + 1 : Nat) : Int)) = some K1 ∧ Heap.read1 K1 ⟨h.length, 0, some 0⟩ = some (str w) ∧ updO K1 .str (.map (some hm)) (str w) (.bool true) = some (undef, K2) ∧
          ∀ u, Rd P (AM.finish h u K2) i 0 (ze2 kn here n x w) (zeo kn here n x a p w) ∧ (AM.finish h u K2)[q]? = some (.cells [pt P.r, .map (some km), rm, .int .i64 ((n + 1 : Nat) : Int)] 0 false) ∧ (AM.finish h u K2)[hm]? = some (.map (rcE (zld here w))) ∧ KpO P (fun z => z = q ∨ z = hm) h (AM.finish h u K2) := by
      intro K x' a' eK kK hx' ha'
      subst hx' ha'
      have qK := kK.keep _ _ q0 id nq
      have hK := kK.keep _ _ hh0' id nh
      have lq := (List.getElem?_eq_some_iff.1 qK).1
      have lh := (List.getElem?_eq_some_iff.1 hK).1
      have hK1 : (K.set q (.cells [pt P.r, .map (some km), rm, .int .i64 ((n + 1 : Nat) : Int)] 0 false))[hm]? = some (.map (rcE here)) := by rw [List.getElem?_set_ne qh]; exact hK
      have gK := kK.keep _ _ g0 id (by omega)
      have lq0 := (List.getElem?_eq_some_iff.1 hq).1
      have hq2 : ((K.set q (.cells [pt P.r, .map (some km), rm, .int .i64 ((n + 1 : Nat) : Int)] 0 false)).set hm (.map (rcE (zld here w))))[q]? = some (.cells [pt P.r, .map (some km), rm, .int .i64 ((n + 1 : Nat) : Int)] 0 false) := by rw [List.getElem?_set_ne (Ne.symm qh), List.getElem?_set_self lq]
      refine ⟨we qK, _, _, by rw [ph qK (by simp)]; rfl, ?_, znj _ hK1 (yf3 here w), ?_⟩
      · rw [yb4 (by simp; omega), we gK]; rfl
      · intro u
        have hfin : AM.finish h u ((K.set q (.cells [pt P.r, .map (some km), rm, .int .i64 ((n + 1 : Nat) : Int)] 0 false)).set hm (.map (rcE (zld here w)))) = ((K.set q (.cells [pt P.r, .map (some km), rm, .int .i64 ((n + 1 : Nat) : Int)] 0 false)).set hm (.map (rcE (zld here w)))) := by
          rcases zaf h _ u with hf | ⟨_, hkk⟩
          · exact hf
          · exfalso
            have h1 := hq
            rw [← hkk, List.getElem?_take, if_pos lq0, hq2] at h1
            simp at h1
            omega
        rw [hfin]
        refine ⟨?_, hq2, ?_, ?_, ?_⟩
        · exact eb.upd (eb.upd eK hqb _) hhb _
        · rw [List.getElem?_set_self (by rw [List.length_set]; exact lh)]
        · intro b o ho n1 n2
          rw [List.getElem?_set_ne (fun h => n1 (.inr h.symm)), List.getElem?_set_ne (fun h => n1 (.inl h.symm))]
          exact kK.keep b o (k0.keep b o ho id n2) id n2
        · rw [List.length_set, List.length_set]; have := k0.le; have := kK.le; omega
    have rg : ∀ j, Heap.read1 h0 ⟨h.length, j, some 0⟩ = ([str w, .int .i64 (p : Int), pt vb] : List Value)[j]? := fun j => we g0
    have rq : ∀ j, Heap.read1 h0 ⟨q, j, some 0⟩ = ([pt P.r, .map (some km), rm, .int .i64 (n : Int)] : List Value)[j]? := fun j => we q0
    have lk := zhw h0 kk0 (.bool false) true (w := w) (ztj kn w)
    have lrc := zhw h0 hh0' (.bool false) false (w := w) (zx3 here w)
    obtain ⟨K1, f1, e1, k1⟩ := zh1 e0 42 p (by omega)
    obtain ⟨K2, f2, e2, k2⟩ := zh1 e0 2 p (by omega)
    obtain ⟨K3, f3, e3, k3⟩ := zh1 e1 2 p (by omega)
    simp only [Int.cast_ofNat_Int] at f1 f2 f3
    have k13 : Kp P (fun _ => False) h0 K3 := (k1.trans k3).weak fun z hz => hz.elim id id
    have rq1 : ∀ j, Heap.read1 K1 ⟨q, j, some 0⟩ = ([pt P.r, .map (some km), rm, .int .i64 (n : Int)] : List Value)[j]? := fun j => we (k1.keep _ _ q0 id nq)
    have rg1 : ∀ j, Heap.read1 K1 ⟨h.length, j, some 0⟩ = ([str w, .int .i64 (p : Int), pt vb] : List Value)[j]? := fun j => we (k1.keep _ _ g0 id (by omega))
    have rq3 : ∀ j, Heap.read1 K3 ⟨q, j, some 0⟩ = ([pt P.r, .map (some km), rm, .int .i64 (n : Int)] : List Value)[j]? := fun j => we (k13.keep _ _ q0 id nq)
    have rq2 : ∀ j, Heap.read1 K2 ⟨q, j, some 0⟩ = ([pt P.r, .map (some km), rm, .int .i64 (n : Int)] : List Value)[j]? := fun j => we (k2.keep _ _ q0 id nq)
    cases htw : ((ji kn w).isSome || here.contains w)
    · rw [Bool.or_eq_false_iff] at htw
      obtain ⟨t1, t2⟩ := htw
      have hl : ji kn w = none := by simpa using t1
      rw [hl] at lk
      rw [t2] at lrc
      by_cases h64 : 64 ≤ n
      · have hX : (if x ≠ 0 then x else 2) = ze2 kn here n x w := by unfold ze2; rw [t1, t2]; simp [h64]
        have hA : (if x ≠ 0 then a else p) = zeo kn here n x a p w := by unfold zeo; rw [t1, t2]; simp [h64]
        obtain ⟨z1, J1, J2, z2, z3, z4, z5⟩ := last K2 _ _ e2 k2 hX hA
        simp only [jn, z7, zr, yl, zb, zw, zu, z8, zn, ye, zc, zp, yr, zo, zf, ze, zd, List.set_cons_succ, List.set_cons_zero, O_mv, yw, xf, yu, yg, yf, List.map_cons, List.map_nil, zz, zk, vj, zbb, List.cons_append, List.nil_append, List.length_cons, List.length_nil, Nat.reduceAdd, Nat.reduceSub, Nat.zero_add, zm, yb, za, Option.map_none, w8, xc, z6, xg, y7, zl, xd, x5, zq, zj, zh, zg, Nat.add_zero, List.getElem?_cons_zero, List.getElem?_cons_succ, eq_self, yh, zt, Option.map_none, decide_true, yh, zt, ← hh0, rg, rq, fc, lk, lrc, zi7, Option.map_none, fy, wn, Bool.false_eq_true, if_false, if_true, c1, h64, decide_true, f2, rq2, w1, z2, z3, z4]
        exact ⟨trivial, z5 _⟩
      · have hX : x = ze2 kn here n x w := by unfold ze2; rw [t1, t2]; by_cases hx0 : x = 0 <;> simp [h64, hx0]
        have hA : a = zeo kn here n x a p w := by unfold zeo; rw [t1, t2]; by_cases hx0 : x = 0 <;> simp [h64, hx0, hx]
        obtain ⟨z1, J1, J2, z2, z3, z4, z5⟩ := last h0 _ _ e0 (Kp.refl _ _ _) hX hA
        simp only [jn, z7, zr, yl, zb, zu, z8, zn, ye, zc, zp, yr, zo, zf, ze, zd, List.set_cons_succ, List.set_cons_zero, O_mv, yw, xf, yu, yg, zz, zk, vj, zbb, List.cons_append, List.nil_append, List.length_cons, List.length_nil, Nat.reduceAdd, Nat.reduceSub, Nat.zero_add, zm, yb, za, Option.map_none, w8, xc, z6, xg, y7, zl, xd, x5, zq, zj, zh, zg, Nat.add_zero, List.getElem?_cons_zero, List.getElem?_cons_succ, eq_self, yh, zt, Option.map_none, decide_false, yh, zt, ← hh0, rg, rq, fc, lk, lrc, zi7, Option.map_none, fy, wn, Bool.false_eq_true, if_false, if_true, c1, h64, decide_false, w1, z2, z3, z4]
        exact ⟨trivial, z5 _⟩
    · have hX1 : (if x ≠ 0 then x else 42) = ze2 kn here n x w := by unfold ze2; rw [htw]; simp
      have hA1 : (if x ≠ 0 then a else p) = zeo kn here n x a p w := by unfold zeo; rw [htw]; simp
      have hne : (if x ≠ 0 then x else 42) ≠ 0 := by split <;> omega
      have hX3 : (if (if x ≠ 0 then x else 42) ≠ 0 then (if x ≠ 0 then x else 42) else 2) = ze2 kn here n x w := by rw [if_pos hne]; exact hX1
      have hA3 : (if (if x ≠ 0 then x else 42) ≠ 0 then (if x ≠ 0 then a else p) else p) = zeo kn here n x a p w := by rw [if_pos hne]; exact hA1
      have two : ∀ Q : Prop, (∀ t, ji kn w = some t → Q) → (ji kn w = none → here.contains w = true → Q) → Q := fun Q a b => by
        cases hl : ji kn w with
        | some t => exact a t hl
        | none => rw [hl] at htw; exact b hl htw
      by_cases h64 : 64 ≤ n
      · obtain ⟨z1, J1, J2, z2, z3, z4, z5⟩ := last K3 _ _ e3 k13 hX3 hA3
        refine two _ (fun t hl => ?_) fun hl hh => ?_
        · rw [hl] at lk
          simp only [jn, z7, zr, zb, zw, z8, zn, ye, zc, zp, wi, zo, zf, ze, zd, List.set_cons_succ, List.set_cons_zero, O_mv, yw, xf, yu, yg, yf, List.map_cons, List.map_nil, zz, zk, vj, zbb, List.cons_append, List.nil_append, List.length_cons, List.length_nil, Nat.reduceAdd, Nat.reduceSub, Nat.zero_add, zm, yb, za, w8, xc, z6, xg, y7, zl, xd, x5, zq, zj, zh, zg, Nat.add_zero, Option.map_some, List.getElem?_cons_zero, List.getElem?_cons_succ, eq_self, yh, zt, Option.map_some, decide_true, yh, zt, ← hh0, rg, rq, fc, lk, zi7, Option.map_some, fy, wn, if_true, c1, h64, decide_true, f1, rq1, rg1, f3, rq3, w1, z2, z3, z4]
          exact ⟨trivial, z5 _⟩
        · rw [hl] at lk
          rw [hh] at lrc
          simp only [jn, z7, zr, zb, zw, z8, zn, ye, zc, zp, yr, zo, zf, ze, zd, List.set_cons_succ, List.set_cons_zero, O_mv, yw, xf, yu, yg, yf, List.map_cons, List.map_nil, zz, zk, vj, zbb, List.cons_append, List.nil_append, List.length_cons, List.length_nil, Nat.reduceAdd, Nat.reduceSub, Nat.zero_add, zm, yb, za, Option.map_none, w8, xc, z6, xg, y7, zl, xd, x5, zq, zj, zh, zg, Nat.add_zero, List.getElem?_cons_zero, List.getElem?_cons_succ, eq_self, yh, zt, Option.map_none, decide_true, yh, zt, ← hh0, rg, rq, fc, lk, lrc, zi7, Option.map_none, fy, wn, Bool.false_eq_true, if_false, if_true, c1, h64, decide_true, f1, rq1, rg1, f3, rq3, w1, z2, z3, z4]
          exact ⟨trivial, z5 _⟩
      · obtain ⟨z1, J1, J2, z2, z3, z4, z5⟩ := last K1 _ _ e1 k1 hX1 hA1
        refine two _ (fun t hl => ?_) fun hl hh => ?_
        · rw [hl] at lk
          simp only [jn, z7, zr, yl, zb, zw, zu, z8, zn, ye, zc, zp, wi, zo, zf, ze, zd, List.set_cons_succ, List.set_cons_zero, O_mv, yw, xf, yu, yg, yf, List.map_cons, List.map_nil, zz, zk, vj, zbb, List.cons_append, List.nil_append, List.length_cons, List.length_nil, Nat.reduceAdd, Nat.reduceSub, Nat.zero_add, zm, yb, za, w8, xc, z6, xg, y7, zl, xd, x5, zq, zj, zh, zg, Nat.add_zero, Option.map_some, List.getElem?_cons_zero, List.getElem?_cons_succ, eq_self, yh, zt, Option.map_some, decide_false, yh, zt, ← hh0, rg, rq, fc, lk, zi7, Option.map_some, fy, wn, if_true, c1, h64, decide_false, f1, rq1, w1, z2, z3, z4]
          exact ⟨trivial, z5 _⟩
        · rw [hl] at lk
          rw [hh] at lrc
          simp only [jn, z7, zr, yl, zb, zw, zu, z8, zn, ye, zc, zp, yr, zo, zf, ze, zd, List.set_cons_succ, List.set_cons_zero, O_mv, yw, xf, yu, yg, yf, List.map_cons, List.map_nil, zz, zk, vj, zbb, List.cons_append, List.nil_append, List.length_cons, List.length_nil, Nat.reduceAdd, Nat.reduceSub, Nat.zero_add, zm, yb, za, Option.map_none, w8, xc, z6, xg, y7, zl, xd, x5, zq, zj, zh, zg, Nat.add_zero, List.getElem?_cons_zero, List.getElem?_cons_succ, eq_self, yh, zt, Option.map_none, decide_false, yh, zt, ← hh0, rg, rq, fc, lk, lrc, zi7, Option.map_none, fy, wn, Bool.false_eq_true, if_false, if_true, c1, h64, decide_false, f1, rq1, w1, z2, z3, z4]
          exact ⟨trivial, z5 _⟩
  obtain ⟨v', h', r, rfl, g⟩ := this
  exact ⟨h', r, g⟩
theorem gx (w : Bys) : ∀ (a b : Kn), ji (a ++ b) w = (ji a w).or (ji b w)
  | [], b => rfl
  | (v, s) :: a, b => by
    rw [List.cons_append, ji, ji]
    cases (w == v)
    · exact gx w a b
    · rfl
theorem zek (w : Bys) (f : Gv → Bool) : ∀ gs : List Gv, (gs.map (·.name)).contains w = false → ji (gs.map fun g => (g.name, f g)) w = none
  | [], h => rfl
  | g :: gs, h => by
    rw [List.map_cons, List.contains_cons, Bool.or_eq_false_iff] at h
    rw [List.map_cons, ji, h.1, if_neg Bool.false_ne_true]
    exact zek w f gs h.2
theorem zkm {kn : Kn} : ∀ {gs : List Gv} {n : Nat} {here : List Bys}, py kn n here gs = .ok () → ∀ (k : Nat) (g : Gv), gs[k]? = some g → ji kn g.name = none ∧ (here ++ (gs.take k).map (·.name)).contains g.name = false
  | [], n, here, h, k, g, hk => by simp at hk
  | g' :: gs, n, here, h, k, g, hk => by
    rw [py] at h
    split at h
    · cases h
    · rename_i h1
      split at h
      · cases h
      · have h1 := Bool.not_eq_true _ |>.mp h1
        rw [Bool.or_eq_false_iff] at h1
        cases k with
        | zero =>
          cases hk
          exact ⟨by simpa using h1.1, by simpa using h1.2⟩
        | succ k =>
          obtain ⟨a, b⟩ := zkm h k g (by simpa using hk)
          exact ⟨a, by rw [List.append_assoc] at b; simpa using b⟩
theorem zqm {kn : Kn} : ∀ {gs : List Gv} {n : Nat} {here : List Bys}, py kn n here gs = .ok () → n + gs.length ≤ 64 + 0 ∨ gs = []
  | [], n, here, h => .inr rfl
  | g' :: gs, n, here, h => by
    rw [py] at h
    split at h
    · cases h
    · split at h
      · cases h
      · left
        rcases zqm h with h' | rfl
        · simp only [List.length_cons]; omega
        · simp only [List.length_cons, List.length_nil]; omega
def LookR (P : RP) (i q km n : Nat) (kn : Kn) (T : Nat → Prop) (row : List Value) (h' : Heap) : CR Stm → Prop
  | .ok st => StP h' T row st ∧ Rd P h' i 0 0 0 ∧ (∃ rm, h'[q]? = some (.cells [pt P.r, .map (some km), rm, .int .i64 ((n + st.given.length : Nat) : Int)] 0 false)) ∧ h'[km]? = some (.map (knE (kn ++ st.given)))
  | .bad c a => c ≠ 0 ∧ Rd P h' i 0 c a
theorem KpO.keep {P : RP} {N : Nat → Prop} {h h' : Heap} (k : KpO P N h h') (b : Nat) (o : AObj) (ho : h[b]? = some o) (n1 : ¬ N b) (n2 : b ≠ P.r) : h'[b]? = some o := k.1 b o ho n1 n2
theorem KpO.trans {P : RP} {N N' : Nat → Prop} {h h' h'' : Heap} (a : KpO P N h h') (b : KpO P N' h' h'') : KpO P (fun z => N z ∨ N' z) h h'' :=
  ⟨fun x o e n1 n2 => b.1 x o (a.1 x o e (fun hh => n1 (.inl hh)) n2) (fun hh => n1 (.inr hh)) n2, Nat.le_trans a.2 b.2⟩
theorem KpO.weak {P : RP} {N N' : Nat → Prop} {h h' : Heap} (a : KpO P N h h') (hs : ∀ z, z < h.length → N z → N' z) : KpO P N' h h' := ⟨fun b o e n1 n2 => a.1 b o e (fun hh => n1 (hs b (List.getElem?_eq_some_iff.1 e).1 hh)) n2, a.2⟩
theorem Kp.o {P : RP} {S : Nat → Prop} {h h' : Heap} (k : Kp P S h h') : KpO P S h h' := ⟨k.keep, k.le⟩
theorem KpO.add (P : RP) (N : Nat → Prop) (h L : Heap) : KpO P N h (h ++ L) := (Kp.add P N h L).o
theorem KpO.set {P : RP} {N : Nat → Prop} {h h' : Heap} {b : Nat} (k : KpO P N h h') (hb : N b) (o : AObj) : KpO P N h (h'.set b o) :=
  ⟨fun c o' ho n1 n2 => by rw [List.getElem?_set_ne (by rintro rfl; exact n1 hb)]; exact k.1 c o' ho n1 n2, by rw [List.length_set]; exact k.2⟩
theorem LookR.fin {P : RP} {i q km n : Nat} {kn : Kn} {T : Nat → Prop} {row : List Value} {h H : Heap} {R : CR Stm} (eh : Rd P h i 0 0 0) (hq : q < h.length) (hkm : km < h.length) (k : KpO P (fun z => T z ∨ z = q ∨ z = km) h H) (hT : ∀ z, T z → z < h.length) (r : LookR P i q km n kn T row H R) (w : Value) : LookR P i q km n kn T row (AM.finish h w H) R ∧ KpO P (fun z => T z ∨ z = q ∨ z = km) h (AM.finish h w H) := by
  rcases zaf h H w with hf | ⟨hf, hk⟩
  · rw [hf]; exact ⟨r, k⟩
  · rw [hf]
    have g : ∀ b o, b < h.length → H[b]? = some o → h[b]? = some o := fun b o hb ho => by
      rw [← hk, List.getElem?_take, if_pos hb]; exact ho
    have rd : ∀ x a, Rd P H i 0 x a → Rd P h i 0 x a := fun x a e =>
      ⟨g _ _ eh.lr e.hr, g _ _ eh.lc e.hc, eh.sw, eh.sc, eh.le⟩
    refine ⟨?_, fun b o ho _ _ => ho, Nat.le_refl _⟩
    cases R with
    | ok st =>
      obtain ⟨r1, r2, ⟨rm, r3⟩, r4⟩ := r
      exact ⟨r1.keep fun b o hb ho => g b o (hT b hb) ho, rd _ _ r2, ⟨rm, g _ _ hq r3⟩, g _ _ hkm r4⟩
    | bad c a => exact ⟨r.1, rd _ _ r.2⟩
def yes (P : RP) (kn : Kn) (st : Stm) : Prop := ∀ (hb h : Heap) (i0 i q km n : Nat) (rm : Value) (T : Nat → Prop) (row : List Value), Rd P hb i0 0 0 0 → Rd P h i 0 0 0 → h[q]? = some (.cells [pt P.r, .map (some km), rm, .int .i64 (n : Int)] 0 false) → h[km]? = some (.map (knE kn)) → StP h T row st →
  (∀ z, T z → hb.length ≤ z ∧ z ≠ q ∧ z ≠ km ∧ z < h.length) → hb.length ≤ q → hb.length ≤ km → n < 900000 → (∀ rc gs, st = .lets rc gs → gs.length ≤ 8192) →
  ∃ h', DF FF kb [pt q, agg row] h = some (tup [], h') ∧ LookR P i q km n kn T row h' (chkS kn n st) ∧ KpO P (fun z => T z ∨ z = q ∨ z = km) h h'
theorem zem (K : Heap) : lenO K nils = some (.int .i64 0, K) := rfl
theorem znh (k : Ck) : (ckS k == [114, 101, 99]) = false := by cases k <;> rfl
theorem zgm (k : Ck) : (ckS k != [101, 109, 112, 116, 121]) = (k != .empty) := by cases k <;> rfl
set_option maxHeartbeats 4000000 in
theorem ybe (P : RP) (kn : Kn) (k : Ck) (x : Ex) (as_ : Bys) : yes P kn (.chk k x as_) := by
  intro hb h i0 i q km n rm T row eb eh hq hk st hT hqb hkb hn hgs
  obtain ⟨v, rfl, tx⟩ := st
  have lq := (List.getElem?_eq_some_iff.1 hq).1
  have lk := (List.getElem?_eq_some_iff.1 hk).1
  have nq : q ≠ P.r := by rintro rfl; have := eh.hr.symm.trans hq; simp at this
  have nk : km ≠ P.r := by rintro rfl; have := eh.hr.symm.trans hk; simp at this
  have qk : q ≠ km := by rintro rfl; have := hq.symm.trans hk; simp at this
  have : ∃ v' h', DF FF kb [pt q, agg [str (ckS k), nils, v, str as_]] h = some (v', h') ∧ (v' = tup [] ∧ LookR P i q km n kn T [str (ckS k), nils, v, str as_] h' (chkS kn n (.chk k x as_)) ∧ KpO P (fun z => T z ∨ z = q ∨ z = km) h h') := by
    refine wz zdp ?_
    obtain ⟨bx, _, _, _, _, rfl, hbT, hbx⟩ := tx.root
    obtain ⟨h0, hh0⟩ : ∃ h0, h0 = h ++ [AObj.cells [str (ckS k), nils, pt bx, str as_] 0 false, .map []] := ⟨_, rfl⟩
    have e0 : Rd P h0 i 0 0 0 := by rw [hh0]; exact eh.more _
    have k0 : KpO P (fun _ => False) h h0 := by rw [hh0]; exact KpO.add _ _ _ _
    have g0 : h0[h.length]? = some (.cells [str (ckS k), nils, pt bx, str as_] 0 false) := by rw [hh0]; simp
    have lh0 : h.length < h0.length := by rw [hh0]; simp
    have lr := eh.lr
    have q0 := k0.keep _ _ hq id nq
    have kk0 := k0.keep _ _ hk id nk
    have lq0 := (List.getElem?_eq_some_iff.1 q0).1
    obtain ⟨h1, hh1⟩ : ∃ h1, h1 = h0.set q (.cells [pt P.r, .map (some km), .map none, .int .i64 (n : Int)] 0 false) := ⟨_, rfl⟩
    have e1 : Rd P h1 i 0 0 0 := by rw [hh1]; exact eb.upd e0 hqb _
    have q1 : h1[q]? = some (.cells [pt P.r, .map (some km), .map none, .int .i64 (n : Int)] 0 false) := by rw [hh1, List.getElem?_set_self lq0]
    have kk1 : h1[km]? = some (.map (knE kn)) := by rw [hh1, List.getElem?_set_ne qk]; exact kk0
    have g1 : h1[h.length]? = some (.cells [str (ckS k), nils, pt bx, str as_] 0 false) := by rw [hh1, List.getElem?_set_ne (by omega)]; exact g0
    have k1 : KpO P (fun z => z = q) h h1 := by rw [hh1]; exact KpO.set (N := fun z => z = q) (k0.weak (fun _ _ h => h.elim)) rfl _
    have w1 : Heap.write1 h0 ⟨q, 2, some 0⟩ (.map none) = some h1 := by rw [ph q0 (by simp), hh1]; rfl
    have t1 : TreeP h1 T (pt bx) x := tx.keep fun z o hz ho => k1.keep z o ho (hT z hz).2.1 (by have := (hT z hz).1; have := eb.lr; omega)
    obtain ⟨h2, c2, r2, k2⟩ := zhr P kn [] x false hb h1 i0 i q km n (.map none) T (pt bx) eb e1 ⟨q1, kk1, .inl ⟨rfl, rfl⟩⟩ t1 ⟨fun z hz => (hT z hz).1, fun h => (hT _ h).2.1 rfl, fun h => (hT _ h).2.2.1 rfl, fun b hb => by cases hb⟩ (fun z hz => by have := (hT z hz).2.2.2; have := k1.2; omega)
    have lbT := fun z (hz : T z) => hT z hz
    have g2 := k2.keep _ _ g1 (fun h => by have := (hT _ h).2.2.2; omega) (by omega)
    have q2 := k2.keep _ _ q1 (fun h => (hT _ h).2.1 rfl) nq
    have kk2 := k2.keep _ _ kk1 (fun h => (hT _ h).2.2.1 rfl) nk
    have k12 : KpO P (fun z => T z ∨ z = q ∨ z = km) h h2 := (k1.trans k2.o).weak fun z _ hz => hz.elim (fun h => .inr (.inl h)) .inl
    have rg1 : ∀ j, Heap.read1 h1 ⟨h.length, j, some 0⟩ = ([str (ckS k), nils, pt bx, str as_] : List Value)[j]? := fun j => we g1
    have rg0 : ∀ j, Heap.read1 h0 ⟨h.length, j, some 0⟩ = ([str (ckS k), nils, pt bx, str as_] : List Value)[j]? := fun j => we g0
    have rg2 : ∀ j, Heap.read1 h2 ⟨h.length, j, some 0⟩ = ([str (ckS k), nils, pt bx, str as_] : List Value)[j]? := fun j => we g2
    have rq2 : ∀ j, Heap.read1 h2 ⟨q, j, some 0⟩ = ([pt P.r, .map (some km), .map none, .int .i64 (n : Int)] : List Value)[j]? := fun j => we q2
    have fa := LookR.fin (R := chkS kn n (.chk k x as_)) (row := [str (ckS k), nils, pt bx, str as_]) (n := n) (kn := kn) eh lq lk k12 (fun z hz => (hT z hz).2.2.2)
    cases hc : chkE kn [] false x with
    | bad ec ea =>
      rw [hc] at r2
      obtain ⟨hc0, ⟨x', tx', hp⟩, e2⟩ := r2
      have hRR : chkS kn n (.chk k x as_) = .bad ec ea := by rw [chkS, hc]
      have ff := fa (by rw [hRR]; exact ⟨hc0, e2⟩)
      obtain ⟨b', op', w', l', r', hpb, _, hbx'⟩ := tx'.root
      have hpb : bx = b' := by simpa using hpb
      subst hpb
      have rx : ∀ j, Heap.read1 h2 ⟨bx, j, some 0⟩ = (vd op' w' x'.pl l' r' x'.set)[j]? := fun j => we hbx'
      cases he : (k != .empty)
      · simp only [qt, z7, zr, w6, yl, zb, zw, zu, z8, zn, ye, zc, zp, w5, zo, zf, ze, zd, List.set_cons_succ, List.set_cons_zero, O_mv, yw, xf, yu, yg, yf, List.map_cons, List.map_nil, j7, zz, zk, xy, List.cons_append, List.nil_append, List.length_cons, List.length_nil, Nat.reduceAdd, Nat.reduceSub, Nat.zero_add, Bool.not_false, zm, yb, zx, za, yx, yj, w8, xc, z6, zl, xd, zao, zq, zj, zh, zg, List.append_assoc, List.length_append, Nat.add_zero, List.getElem?_cons_zero, List.getElem?_cons_succ, Bool.bne_true, jq, Int.reduceLT, eq_self, yh, zt, yi, w9, zhz, decide_false, yh, zt, ze6, ← hh0, rg0, rg1, rg2, zem, zfe, znh, w1, xo, xq, c2, zgm, he, wn]
        exact ⟨trivial, ff _⟩
      · cases hs : x'.set
        · simp only [qt, z7, zr, w6, yl, zb, zw, zu, z8, zn, ye, zc, zp, xl, zo, zf, ze, zd, List.set_cons_succ, List.set_cons_zero, O_mv, yw, xf, yu, yg, yf, List.map_cons, List.map_nil, j7, zz, zk, xy, List.cons_append, List.nil_append, List.length_cons, List.length_nil, Nat.reduceAdd, Nat.reduceSub, Nat.zero_add, Bool.not_false, zm, yb, zx, za, yx, yj, w8, xc, z6, zl, xd, zao, zq, zj, zh, zg, List.append_assoc, List.length_append, Nat.add_zero, List.getElem?_cons_zero, List.getElem?_cons_succ, Bool.bne_true, jq, Int.reduceLT, eq_self, yh, zt, yi, w9, zhz, decide_false, yh, zt, ze6, ← hh0, rg0, rg1, rg2, zem, zfe, znh, w1, xo, xq, c2, zgm, he, rx, zb1, hs, wn]
          exact ⟨trivial, ff _⟩
        · simp only [qt, z7, zr, w6, yl, zb, zw, zu, z8, zn, ye, zc, zp, xl, zo, zf, ze, zd, List.set_cons_succ, List.set_cons_zero, O_mv, yw, xf, yu, yg, yf, List.map_cons, List.map_nil, j7, zz, zk, xy, List.cons_append, List.nil_append, List.length_cons, List.length_nil, Nat.reduceAdd, Nat.reduceSub, Nat.zero_add, Bool.not_false, zm, yb, zx, za, yx, yj, w8, xc, z6, zl, xd, zao, zq, zj, zh, zg, List.append_assoc, List.length_append, Nat.add_zero, List.getElem?_cons_zero, List.getElem?_cons_succ, Bool.bne_true, jq, Int.reduceLT, eq_self, yh, zt, yi, w9, zhz, decide_false, yh, zt, ze6, ← hh0, rg0, rg1, rg2, zem, zfe, znh, w1, xo, xq, c2, zgm, he, rx, zb1, f7, hs, rq2, zk5 e2 hc0, wn]
          exact ⟨trivial, ff _⟩
    | ok x' =>
      rw [hc] at r2
      obtain ⟨tx', hp, e2⟩ := r2
      obtain ⟨b', op', w', l', r', hpb, _, hbx'⟩ := tx'.root
      have hpb : bx = b' := by simpa using hpb
      subst hpb
      have rx : ∀ j, Heap.read1 h2 ⟨bx, j, some 0⟩ = (vd op' w' x'.pl l' r' x'.set)[j]? := fun j => we hbx'
      cases he : (k != .empty && x'.set)
      · have hRR : chkS kn n (.chk k x as_) = .ok (.chk k x' as_) := by rw [chkS, hc]; simp only [he]; rfl
        have ff := fa (by
          rw [hRR]
          exact ⟨⟨pt bx, rfl, tx'⟩, e2, ⟨_, q2⟩, by simpa [Stm.given] using kk2⟩)
        cases hk : (k != .empty)
        · simp only [qt, z7, zr, w6, yl, zb, zw, zu, z8, zn, ye, zc, zp, w5, zo, zf, ze, zd, List.set_cons_succ, List.set_cons_zero, O_mv, yw, xf, yu, yg, yf, List.map_cons, List.map_nil, j7, zz, zk, xy, List.cons_append, List.nil_append, List.length_cons, List.length_nil, Nat.reduceAdd, Nat.reduceSub, Nat.zero_add, Bool.not_false, zm, yb, zx, za, yx, yj, w8, xc, z6, zl, xd, zao, zq, zj, zh, zg, List.append_assoc, List.length_append, Nat.add_zero, List.getElem?_cons_zero, List.getElem?_cons_succ, Bool.bne_true, jq, Int.reduceLT, eq_self, yh, zt, yi, w9, zhz, decide_false, yh, zt, ze6, ← hh0, rg0, rg1, rg2, zem, zfe, znh, w1, xo, xq, c2, zgm, hk, wn]
          exact ⟨trivial, ff _⟩
        · rw [hk, Bool.true_and] at he
          simp only [qt, z7, zr, w6, yl, zb, zw, zu, z8, zn, ye, zc, zp, xl, zo, zf, ze, zd, List.set_cons_succ, List.set_cons_zero, O_mv, yw, xf, yu, yg, yf, List.map_cons, List.map_nil, j7, zz, zk, xy, List.cons_append, List.nil_append, List.length_cons, List.length_nil, Nat.reduceAdd, Nat.reduceSub, Nat.zero_add, Bool.not_false, zm, yb, zx, za, yx, yj, w8, xc, z6, zl, xd, zao, zq, zj, zh, zg, List.append_assoc, List.length_append, Nat.add_zero, List.getElem?_cons_zero, List.getElem?_cons_succ, Bool.bne_true, jq, Int.reduceLT, eq_self, yh, zt, yi, w9, zhz, decide_false, yh, zt, ze6, ← hh0, rg0, rg1, rg2, zem, zfe, znh, w1, xo, xq, c2, zgm, hk, rx, zb1, he, wn]
          exact ⟨trivial, ff _⟩
      · obtain ⟨h3, f3, e3, k3⟩ := zh1 e2 41 x.pl (by omega)
        simp only [Int.cast_ofNat_Int] at f3
        have hRR : chkS kn n (.chk k x as_) = .bad 41 x.pl := by rw [chkS, hc]; simp only [he]; rfl
        have k13 : KpO P (fun z => T z ∨ z = q ∨ z = km) h h3 := (k12.trans k3.o).weak fun z _ hz => hz.elim id False.elim
        have ff := LookR.fin (R := chkS kn n (.chk k x as_)) (row := [str (ckS k), nils, pt bx, str as_]) (n := n) (kn := kn) eh lq lk k13 (fun z hz => (hT z hz).2.2.2) (by rw [hRR]; exact ⟨by omega, by simpa using e3⟩)
        rw [Bool.and_eq_true] at he
        simp only [qt, z7, zr, w6, yl, zb, zw, zu, z8, zn, ye, zc, zp, xl, zo, zf, ze, zd, List.set_cons_succ, List.set_cons_zero, O_mv, yw, xf, yu, yg, yf, List.map_cons, List.map_nil, j7, zz, zk, xy, List.cons_append, List.nil_append, List.length_cons, List.length_nil, Nat.reduceAdd, Nat.reduceSub, Nat.zero_add, Bool.not_false, zm, yb, zx, za, yx, yj, w8, xc, z6, zl, xd, zao, zq, zj, zh, zg, List.append_assoc, List.length_append, Nat.add_zero, List.getElem?_cons_zero, List.getElem?_cons_succ, Bool.bne_true, jq, Int.reduceLT, eq_self, yh, zt, yi, w9, zhz, decide_false, yh, zt, ze6, ← hh0, rg0, rg1, rg2, zem, zfe, znh, w1, xo, xq, c2, zgm, he.1, rx, zb1, f7, hp, he.2, rq2, f3, wn]
        exact ⟨trivial, ff _⟩
  obtain ⟨v', h', r, rfl, g⟩ := this
  exact ⟨h', r, g⟩
/-- bo some of the names; N: what may have been turned since h0. -/
structure LkS (P : RP) (N : Nat → Prop) (h0 K : Heap) (i q km hm b3 n : Nat) (rm : Value) (here : List Bys) (kn : Kn) (row : List Value) (x a : Nat) : Prop where
  rd : Rd P K i 0 x a
  cq : K[q]? = some (.cells [pt P.r, .map (some km), rm, .int .i64 (n : Int)] 0 false)
  ck : K[km]? = some (.map (knE kn))
  ch : K[hm]? = some (.map (rcE here))
  rw : K[b3]? = some (.cells row 0 false)
  kp : KpO P N h0 K
section
variable {P : RP} {N : Nat → Prop} {h0 K : Heap} {i q km hm b3 n : Nat} {rm : Value} {here : List Bys} {kn : Kn} {row : List Value} {x a : Nat}
theorem LkS.more (l : LkS P N h0 K i q km hm b3 n rm here kn row x a) (L : Heap) : LkS P N h0 (K ++ L) i q km hm b3 n rm here kn row x a :=
  ⟨l.rd.more L, xa L l.cq, xa L l.ck, xa L l.ch, xa L l.rw, (l.kp.trans (KpO.add P (fun _ => False) K L)).weak fun _ _ h => h.elim id False.elim⟩
theorem LkS.weak {N' : Nat → Prop} (l : LkS P N h0 K i q km hm b3 n rm here kn row x a) (hs : ∀ z, N z → N' z) : LkS P N' h0 K i q km hm b3 n rm here kn row x a :=
  ⟨l.rd, l.cq, l.ck, l.ch, l.rw, l.kp.weak fun z _ h => hs z h⟩
theorem LkS.ne (l : LkS P N h0 K i q km hm b3 n rm here kn row x a) (hr : row.length = 4) : q ≠ P.r ∧ km ≠ P.r ∧ hm ≠ P.r ∧ b3 ≠ P.r ∧ q ≠ km ∧ q ≠ hm ∧ b3 ≠ km ∧ b3 ≠ hm := by
  refine ⟨?_, ?_, ?_, ?_, ?_, ?_, ?_, ?_⟩
  · rintro rfl; have := l.rd.hr.symm.trans l.cq; simp at this
  · rintro rfl; have := l.rd.hr.symm.trans l.ck; simp at this
  · rintro rfl; have := l.rd.hr.symm.trans l.ch; simp at this
  · rintro rfl
    have := l.rd.hr.symm.trans l.rw
    simp at this
    rw [← this] at hr; simp at hr
  · rintro rfl; have := l.cq.symm.trans l.ck; simp at this
  · rintro rfl; have := l.cq.symm.trans l.ch; simp at this
  · rintro rfl; have := l.rw.symm.trans l.ck; simp at this
  · rintro rfl; have := l.rw.symm.trans l.ch; simp at this
end
theorem GsP.focus {h : Heap} : ∀ {S : Nat → Prop} {vs : List Value} {gs : List Gv} {k : Nat} {g : Gv}, GsP h S vs gs → gs[k]? = some g → ∃ v Sk, vs[k]? = some v ∧ TreeP h Sk v g.e ∧ (∀ z, Sk z → S z) ∧
    ∀ (h' : Heap) (e' : Ex), TreeP h' Sk v e' → (∀ b o, S b → ¬ Sk b → h[b]? = some o → h'[b]? = some o) → GsP h' S vs (gs.set k ⟨g.name, g.at_, e'⟩)
  | S, [], [], k, g, e, hk => by simp at hk
  | S, v :: vs, g' :: gs, 0, g, e, hk => by
    obtain ⟨S1, S2, t, r, h1, h2⟩ := e
    cases hk
    refine ⟨v, S1, rfl, t, fun z hz => (h1 z hz).1, fun h' e' t' keep => ⟨S1, S2, t', r.keep fun b o hb ho => keep b o (h2 b hb) (fun h3 => (h1 b h3).2 hb) ho, h1, h2⟩⟩
  | S, v :: vs, g' :: gs, k + 1, g, e, hk => by
    obtain ⟨S1, S2, t, r, h1, h2⟩ := e
    obtain ⟨w, Sk, a, b, c, d⟩ := r.focus (k := k) (g := g) (by simpa using hk)
    refine ⟨w, Sk, by simpa using a, b, fun z hz => h2 z (c z hz), fun h' e' t' keep => ⟨S1, S2, t.keep fun z o hz ho => keep z o (h1 z hz).1 (fun h3 => (h1 z hz).2 (c z h3)) ho, d h' e' t' fun z o hz hn ho => keep z o (h2 z hz) hn ho, h1, h2⟩⟩
  | S, [], _ :: _, k, g, e, hk => e.elim
  | S, _ :: _, [], k, g, e, hk => e.elim
theorem zm0 {kn : Kn} {rc : List Bys} : ∀ {gs l : List Gv}, zda kn rc true gs = .ok l → ∀ g ∈ l, g.e.set = false
  | [], l, h, g, hg => by cases h; cases hg
  | g' :: gs, l, h, g, hg => by
    rw [zda] at h
    split at h
    · cases h
    · rename_i y hx
      split at h
      · cases h
      · rename_i hs
        split at h
        · cases h
        · rename_i m hm
          cases h
          rcases List.mem_cons.1 hg with rfl | hg
          · simpa using hs
          · exact zm0 hm g hg
theorem zg8 {kn : Kn} {rc : List Bys} {b : Bool} : ∀ {gs l : List Gv}, zda kn rc b gs = .ok l → l.map (fun g => (g.name, g.at_)) = gs.map fun g => (g.name, g.at_)
  | [], l, h => by cases h; rfl
  | g' :: gs, l, h => by
    rw [zda] at h
    split at h
    · cases h
    · split at h
      · cases h
      · split at h
        · cases h
        · rename_i m hm
          cases h
          simp [zg8 hm]
theorem zuo : ∀ {gs l : List Gv} (vs : List Value), l.map (fun g => (g.name, g.at_)) = gs.map (fun g => (g.name, g.at_)) → List.zipWith v7 l vs = List.zipWith v7 gs vs
  | [], [], vs, h => rfl
  | [], _ :: _, vs, h => by simp at h
  | _ :: _, [], vs, h => by simp at h
  | g :: gs, f :: l, [], h => rfl
  | g :: gs, f :: l, v :: vs, h => by
    simp only [List.map_cons, List.cons.injEq, Prod.mk.injEq] at h
    rw [List.zipWith_cons_cons, List.zipWith_cons_cons, zuo vs h.2]
    unfold v7
    rw [h.1.1, h.1.2]
theorem zzl {gs : List Gv} {vs : List Value} (hl : vs.length = gs.length) {k : Nat} {g : Gv} {v : Value} (hg : gs[k]? = some g) (hv : vs[k]? = some v) : (List.zipWith v7 gs vs)[k]? = some (v7 g v) := by
  rw [List.getElem?_zipWith, hg, hv]
section
variable (P : RP) (h h0 : Heap) (i q km n : Nat) (kn : Kn) (rc : Bool) (gs : List Gv) (s : Value) (row : List Value) (N : Nat → Prop) (R0 : CR Stm)
def LkA (rm : Value) (k : Nat) (K : Heap) : Prop := ∃ here x a, LkS P N h0 K i q km (h.length + 1) h.length (n + k) rm here kn row x a ∧
  (x = 0 → a = 0 ∧ here = (gs.take k).map (·.name) ∧ py kn n [] gs = py kn (n + k) here (gs.drop k)) ∧ (x ≠ 0 → R0 = .bad x a)
def LkA1 (rm : Value) (k : Nat) (st : St) : Prop := ∃ K, (∃ j : Nat → Value, st = ⟨[pt q, j 1, j 2, pt h.length, .map (some (h.length + 1)), j 5, j 6, j 7, j 8, j 9, j 10, j 11, j 12, j 13, j 14, s, .int .i64 (gs.length : Int), .int .i64 (k : Int), j 18, j 19, j 20, j 21, j 22, j 23, j 24, j 25, j 26, j 27, j 28, j 29, j 30, j 31, j 32, j 33, j 34, j 35, j 36, j 37, j 38, j 39, j 40, j 41, j 42, j 43, j 44, j 45, j 46, j 47, j 48, j 49, j 50, j 51, j 52, j 53, j 54, j 55, j 56, j 57, j 58, j 59, j 60, j 61, j 62, j 63, j 64, j 65, j 66, j 67, j 68, j 69, j 70, j 71, j 72, j 73, j 74, j 75, j 76, j 77, j 78, j 79, j 80, j 81, j 82, j 83, j 84, j 85, j 86, j 87, j 88, j 89, j 90, j 91, j 92, j 93, j 94, j 95, j 96, j 97, j 98, j 99, j 100, j 101, j 102, j 103, j 104, j 105, j 106, j 107, j 108, j 109, j 110, j 111, j 112, j 113, j 114, j 115, j 116, j 117, j 118, j 119, j 120, j 121, j 122, j 123, j 124, j 125, j 126, j 127, j 128, j 129, j 130, j 131, j 132, j 133, j 134, j 135, j 136, j 137], K⟩) ∧ LkA P h h0 i q km n kn gs row N R0 rm k K
def LkA2 (rm : Value) (k : Nat) (st : St) : Prop := ∃ K, (∃ j : Nat → Value, st = ⟨[pt q, j 1, j 2, pt h.length, .map (some (h.length + 1)), j 5, j 6, j 7, j 8, j 9, j 10, j 11, j 12, j 13, j 14, j 15, j 16, j 17, j 18, j 19, j 20, j 21, j 22, j 23, j 24, j 25, j 26, j 27, j 28, j 29, j 30, j 31, j 32, j 33, j 34, j 35, j 36, j 37, j 38, j 39, j 40, j 41, j 42, j 43, j 44, j 45, j 46, j 47, j 48, j 49, j 50, j 51, j 52, j 53, j 54, j 55, j 56, j 57, j 58, j 59, j 60, j 61, j 62, j 63, j 64, j 65, j 66, j 67, j 68, j 69, j 70, j 71, j 72, j 73, j 74, j 75, j 76, j 77, j 78, j 79, j 80, j 81, j 82, j 83, j 84, j 85, j 86, j 87, j 88, j 89, j 90, j 91, j 92, j 93, j 94, j 95, j 96, j 97, j 98, j 99, j 100, j 101, j 102, j 103, j 104, j 105, j 106, j 107, j 108, j 109, j 110, j 111, j 112, j 113, j 114, j 115, j 116, j 117, j 118, j 119, j 120, j 121, j 122, j 123, j 124, j 125, j 126, j 127, j 128, j 129, j 130, j 131, j 132, j 133, j 134, j 135, j 136, j 137], K⟩) ∧ LkA P h h0 i q km n kn gs row N R0 rm k K
def LkB (rm : Value) (k : Nat) (K : Heap) : Prop := ∃ here kn' x a, LkS P N h0 K i q km (h.length + 1) h.length (n + gs.length) rm here kn' row x a ∧
  (x = 0 → a = 0 ∧ here = gs.map (·.name) ∧ kn' = kn ++ (gs.take k).map (fun g => (g.name, false)) ∧ py kn n [] gs = .ok ()) ∧ (x ≠ 0 → R0 = .bad x a)
def LkB1 (rm : Value) (k : Nat) (st : St) : Prop := ∃ K, (∃ j : Nat → Value, st = ⟨[pt q, j 1, j 2, pt h.length, j 4, j 5, j 6, j 7, j 8, j 9, j 10, j 11, j 12, j 13, j 14, j 15, j 16, j 17, j 18, j 19, j 20, j 21, j 22, j 23, j 24, j 25, j 26, j 27, j 28, j 29, j 30, j 31, j 32, j 33, j 34, j 35, j 36, s, .int .i64 (gs.length : Int), .int .i64 (k : Int), j 40, j 41, j 42, j 43, j 44, j 45, j 46, j 47, j 48, j 49, j 50, j 51, j 52, j 53, j 54, j 55, j 56, j 57, j 58, j 59, j 60, j 61, j 62, j 63, j 64, j 65, j 66, j 67, j 68, j 69, j 70, j 71, j 72, j 73, j 74, j 75, j 76, j 77, j 78, j 79, j 80, j 81, j 82, j 83, j 84, j 85, j 86, j 87, j 88, j 89, j 90, j 91, j 92, j 93, j 94, j 95, j 96, j 97, j 98, j 99, j 100, j 101, j 102, j 103, j 104, j 105, j 106, j 107, j 108, j 109, j 110, j 111, j 112, j 113, j 114, j 115, j 116, j 117, j 118, j 119, j 120, j 121, j 122, j 123, j 124, j 125, j 126, j 127, j 128, j 129, j 130, j 131, j 132, j 133, j 134, j 135, j 136, j 137], K⟩) ∧ LkB P h h0 i q km n kn gs row N R0 rm k K
def LkB2 (rm : Value) (k : Nat) (st : St) : Prop := ∃ K, (∃ j : Nat → Value, st = ⟨[pt q, j 1, j 2, pt h.length, j 4, j 5, j 6, j 7, j 8, j 9, j 10, j 11, j 12, j 13, j 14, j 15, j 16, j 17, j 18, j 19, j 20, j 21, j 22, j 23, j 24, j 25, j 26, j 27, j 28, j 29, j 30, j 31, j 32, j 33, j 34, j 35, j 36, j 37, j 38, j 39, j 40, j 41, j 42, j 43, j 44, j 45, j 46, j 47, j 48, j 49, j 50, j 51, j 52, j 53, j 54, j 55, j 56, j 57, j 58, j 59, j 60, j 61, j 62, j 63, j 64, j 65, j 66, j 67, j 68, j 69, j 70, j 71, j 72, j 73, j 74, j 75, j 76, j 77, j 78, j 79, j 80, j 81, j 82, j 83, j 84, j 85, j 86, j 87, j 88, j 89, j 90, j 91, j 92, j 93, j 94, j 95, j 96, j 97, j 98, j 99, j 100, j 101, j 102, j 103, j 104, j 105, j 106, j 107, j 108, j 109, j 110, j 111, j 112, j 113, j 114, j 115, j 116, j 117, j 118, j 119, j 120, j 121, j 122, j 123, j 124, j 125, j 126, j 127, j 128, j 129, j 130, j 131, j 132, j 133, j 134, j 135, j 136, j 137], K⟩) ∧ LkB P h h0 i q km n kn gs row N R0 rm k K
end
def knIn (kn : Kn) (rc : Bool) (gs : List Gv) : Kn := if rc then kn ++ gs.map fun g => (g.name, false) else kn
def rcIn (rc : Bool) (gs : List Gv) : List Bys := if rc then gs.map (·.name) else []
section
variable (P : RP) (h h0 : Heap) (i q km n : Nat) (kn : Kn) (rc : Bool) (gs : List Gv) (vs : List Value) (S : Nat → Prop) (s : Value) (row : List Value) (N : Nat → Prop) (R0 : CR Stm)
def LkC (rm : Value) (k : Nat) (K : Heap) : Prop := ∃ here kn' x a gs', LkS P N h0 K i q km (h.length + 1) h.length (n + gs.length) rm here kn' row x a ∧ GsP K S vs gs' ∧ (gs'.map fun g => (g.name, g.at_)) = (gs.map fun g => (g.name, g.at_)) ∧
  (x = 0 → a = 0 ∧ (rc = true → here = gs.map (·.name)) ∧ kn' = knIn kn rc gs ∧ py kn n [] gs = .ok () ∧ ∃ l, l.length = k ∧ gs' = l ++ gs.drop k ∧ R0 = (match zda kn' (rcIn rc gs) rc (gs.drop k) with | .bad c a => .bad c a | .ok m => .ok (.lets rc (l ++ m))) ∧ (rc = true → ∀ g ∈ l, g.e.set = false)) ∧ (x ≠ 0 → R0 = .bad x a)
def LkC1 (rm : Value) (k : Nat) (st : St) : Prop := ∃ K, (∃ j : Nat → Value, st = ⟨[pt q, j 1, j 2, pt h.length, j 4, j 5, j 6, j 7, j 8, j 9, j 10, j 11, j 12, j 13, j 14, j 15, j 16, j 17, j 18, j 19, j 20, j 21, j 22, j 23, j 24, j 25, j 26, j 27, j 28, j 29, j 30, j 31, j 32, j 33, j 34, j 35, j 36, j 37, j 38, j 39, j 40, j 41, j 42, j 43, j 44, j 45, j 46, j 47, j 48, j 49, j 50, j 51, j 52, j 53, j 54, j 55, s, .int .i64 (gs.length : Int), .int .i64 (k : Int), j 59, j 60, j 61, j 62, j 63, j 64, j 65, j 66, j 67, j 68, j 69, j 70, j 71, j 72, j 73, j 74, j 75, j 76, j 77, j 78, j 79, j 80, j 81, j 82, j 83, j 84, j 85, j 86, j 87, j 88, j 89, j 90, j 91, j 92, j 93, j 94, j 95, j 96, j 97, j 98, j 99, j 100, j 101, j 102, j 103, j 104, j 105, j 106, j 107, j 108, j 109, j 110, j 111, j 112, j 113, j 114, j 115, j 116, j 117, j 118, j 119, j 120, j 121, j 122, j 123, j 124, j 125, j 126, j 127, j 128, j 129, j 130, j 131, j 132, j 133, j 134, j 135, j 136, j 137], K⟩) ∧ LkC P h h0 i q km n kn rc gs vs S row N R0 rm k K
def LkC2 (rm : Value) (k : Nat) (st : St) : Prop := ∃ K, (∃ j : Nat → Value, st = ⟨[pt q, j 1, j 2, pt h.length, j 4, j 5, j 6, j 7, j 8, j 9, j 10, j 11, j 12, j 13, j 14, j 15, j 16, j 17, j 18, j 19, j 20, j 21, j 22, j 23, j 24, j 25, j 26, j 27, j 28, j 29, j 30, j 31, j 32, j 33, j 34, j 35, j 36, j 37, j 38, j 39, j 40, j 41, j 42, j 43, j 44, j 45, j 46, j 47, j 48, j 49, j 50, j 51, j 52, j 53, j 54, j 55, j 56, j 57, j 58, j 59, j 60, j 61, j 62, j 63, j 64, j 65, j 66, j 67, j 68, j 69, j 70, j 71, j 72, j 73, j 74, j 75, j 76, j 77, j 78, j 79, j 80, j 81, j 82, j 83, j 84, j 85, j 86, j 87, j 88, j 89, j 90, j 91, j 92, j 93, j 94, j 95, j 96, j 97, j 98, j 99, j 100, j 101, j 102, j 103, j 104, j 105, j 106, j 107, j 108, j 109, j 110, j 111, j 112, j 113, j 114, j 115, j 116, j 117, j 118, j 119, j 120, j 121, j 122, j 123, j 124, j 125, j 126, j 127, j 128, j 129, j 130, j 131, j 132, j 133, j 134, j 135, j 136, j 137], K⟩) ∧ LkC P h h0 i q km n kn rc gs vs S row N R0 rm k K
def LkD (rm : Value) (k : Nat) (K : Heap) : Prop := ∃ here kn' x a gs', LkS P N h0 K i q km (h.length + 1) h.length (n + gs.length) rm here kn' row x a ∧ GsP K S vs gs' ∧ (gs'.map fun g => (g.name, g.at_)) = (gs.map fun g => (g.name, g.at_)) ∧
  (x = 0 → a = 0 ∧ py kn n [] gs = .ok () ∧ R0 = .ok (.lets rc gs') ∧ (rc = true → ∀ g ∈ gs', g.e.set = false) ∧ kn' = (if rc then kn ++ j8 gs' else kn ++ j8 (gs'.take k))) ∧ (x ≠ 0 → R0 = .bad x a)
def LkD1 (rm : Value) (k : Nat) (st : St) : Prop := ∃ K, (∃ j : Nat → Value, st = ⟨[pt q, j 1, j 2, pt h.length, j 4, j 5, j 6, j 7, j 8, j 9, j 10, j 11, j 12, j 13, j 14, j 15, j 16, j 17, j 18, j 19, j 20, j 21, j 22, j 23, j 24, j 25, j 26, j 27, j 28, j 29, j 30, j 31, j 32, j 33, j 34, j 35, j 36, j 37, j 38, j 39, j 40, j 41, j 42, j 43, j 44, j 45, j 46, j 47, j 48, j 49, j 50, j 51, j 52, j 53, j 54, j 55, j 56, j 57, j 58, j 59, j 60, j 61, j 62, j 63, j 64, j 65, j 66, j 67, j 68, j 69, j 70, j 71, j 72, j 73, j 74, j 75, j 76, j 77, j 78, j 79, j 80, j 81, j 82, j 83, j 84, j 85, j 86, j 87, s, .int .i64 (gs.length : Int), .int .i64 (k : Int), j 91, j 92, j 93, j 94, j 95, j 96, j 97, j 98, j 99, j 100, j 101, j 102, j 103, j 104, j 105, j 106, j 107, j 108, j 109, j 110, j 111, j 112, j 113, j 114, j 115, j 116, j 117, j 118, j 119, j 120, j 121, j 122, j 123, j 124, j 125, j 126, j 127, j 128, j 129, j 130, j 131, j 132, j 133, j 134, j 135, j 136, j 137], K⟩) ∧ LkD P h h0 i q km n kn rc gs vs S row N R0 rm k K
def LkD2 (rm : Value) (k : Nat) (st : St) : Prop := ∃ K, (∃ j : Nat → Value, st = ⟨[pt q, j 1, j 2, pt h.length, j 4, j 5, j 6, j 7, j 8, j 9, j 10, j 11, j 12, j 13, j 14, j 15, j 16, j 17, j 18, j 19, j 20, j 21, j 22, j 23, j 24, j 25, j 26, j 27, j 28, j 29, j 30, j 31, j 32, j 33, j 34, j 35, j 36, j 37, j 38, j 39, j 40, j 41, j 42, j 43, j 44, j 45, j 46, j 47, j 48, j 49, j 50, j 51, j 52, j 53, j 54, j 55, j 56, j 57, j 58, j 59, j 60, j 61, j 62, j 63, j 64, j 65, j 66, j 67, j 68, j 69, j 70, j 71, j 72, j 73, j 74, j 75, j 76, j 77, j 78, j 79, j 80, j 81, j 82, j 83, j 84, j 85, j 86, j 87, j 88, j 89, j 90, j 91, j 92, j 93, j 94, j 95, j 96, j 97, j 98, j 99, j 100, j 101, j 102, j 103, j 104, j 105, j 106, j 107, j 108, j 109, j 110, j 111, j 112, j 113, j 114, j 115, j 116, j 117, j 118, j 119, j 120, j 121, j 122, j 123, j 124, j 125, j 126, j 127, j 128, j 129, j 130, j 131, j 132, j 133, j 134, j 135, j 136, j 137], K⟩) ∧ LkD P h h0 i q km n kn rc gs vs S row N R0 rm k K
end
theorem zpp (rc : Bool) : (kwOf rc == [114, 101, 99]) = rc := by cases rc <;> rfl
theorem zdf {α : Type} {l : List α} {k : Nat} {x : α} (h : l[k]? = some x) : l.drop k = x :: l.drop (k + 1) := by
  have hk := (List.getElem?_eq_some_iff.1 h).1
  rw [List.drop_eq_getElem_cons hk]
  rw [List.getElem?_eq_getElem hk] at h
  rw [Option.some.inj h]
theorem zo6 {α : Type} {l : List α} {k : Nat} {x : α} (h : l[k]? = some x) : l.take (k + 1) = l.take k ++ [x] := by
  rw [List.take_add_one, h]; rfl
section
variable {kn : Kn} {here : List Bys} {n x a p : Nat} {w : Bys}
theorem zo2 (h : ¬ x = 0) : ze2 kn here n x w = x ∧ zeo kn here n x a p w = a := by unfold ze2 zeo; simp [h]
theorem zpe (h : x = 0) (t : ((ji kn w).isSome || here.contains w) = true) : ze2 kn here n x w = 42 ∧ zeo kn here n x a p w = p := by unfold ze2 zeo; rw [t]; simp [h]
theorem zoi (h : x = 0) (t : ((ji kn w).isSome || here.contains w) = false) (t2 : 64 ≤ n) : ze2 kn here n x w = 2 ∧ zeo kn here n x a p w = p := by unfold ze2 zeo; rw [t]; simp [h, t2]
theorem zu4 (h : x = 0) (t : ((ji kn w).isSome || here.contains w) = false) (t2 : ¬ 64 ≤ n) : ze2 kn here n x w = 0 ∧ zeo kn here n x a p w = 0 := by unfold ze2 zeo; rw [t]; simp [h, t2]
end
theorem ybf {P : RP} {hb h h0 K : Heap} {i0 i q km n k : Nat} {kn : Kn} {gs : List Gv} {row : List Value} {N : Nat → Prop} {R0 : CR Stm} {rm : Value} {g : Gv} {b : Nat} (eb : Rd P hb i0 0 0 0) (hqb : hb.length ≤ q) (hhb : hb.length ≤ h.length) (hql : q < h.length) (hkl : km < h.length) (hr : row.length = 4) (hn : n + k < 1000000) (hNq : N q) (hNh : N (h.length + 1)) (hRF : ∀ c a, py kn n [] gs = .bad c a → R0 = .bad c a) (e : LkA P h h0 i q km n kn gs row N R0 rm k K) (hg : gs[k]? = some g) :
    ∃ K', DF FF gv [pt q, agg (v7 g (pt b)), .map (some (h.length + 1))] (K ++ [.cells (v7 g (pt b)) 0 false]) = some (tup [], K') ∧ LkA P h h0 i q km n kn gs row N R0 rm (k + 1) K' := by
  obtain ⟨here, x, a, l, f1, f2⟩ := e
  have l' := l.more [.cells (v7 g (pt b)) 0 false]
  obtain ⟨nq, nk, nh, n3, qk, qh, b3k, b3h⟩ := l.ne hr
  obtain ⟨K', q', e', cq', ch', k'⟩ := ygh (w := g.name) (p := g.at_) (v := pt b) eb hqb (Nat.le_succ_of_le hhb) l'.rd (fun h => (f1 h).1) l'.cq l'.ck l'.ch hn ⟨b, rfl⟩
  have hpure : ∀ (x0 : x = 0), py kn n [] gs = (if (ji kn g.name).isSome || here.contains g.name then CR.bad 42 g.at_ else if 64 ≤ n + k then .bad 2 g.at_ else py kn (n + (k + 1)) (here ++ [g.name]) (gs.drop (k + 1))) := fun x0 => by
    rw [(f1 x0).2.2, zdf hg, py]
    rfl
  refine ⟨K', q', zld here g.name, _, _, ⟨e', cq', k'.1 _ _ l'.ck (fun h => h.elim (Ne.symm qk) (by omega)) nk, ch', k'.1 _ _ l'.rw (fun h => h.elim (by omega) (by omega)) n3, (l'.kp.trans k').weak fun z _ hz => hz.elim id fun h => h.elim (by rintro rfl; exact hNq) (by rintro rfl; exact hNh)⟩, ?_, ?_⟩
  · intro hx
    by_cases x0 : x = 0
    · have hp := hpure x0
      cases t1 : ((ji kn g.name).isSome || here.contains g.name)
      · rw [t1, if_neg Bool.false_ne_true] at hp
        by_cases t2 : 64 ≤ n + k
        · rw [(zoi (a := a) (p := g.at_) x0 t1 t2).1] at hx; cases hx
        · rw [if_neg t2] at hp
          rw [Bool.or_eq_false_iff] at t1
          refine ⟨(zu4 (a := a) (p := g.at_) x0 (by rw [Bool.or_eq_false_iff]; exact t1) t2).2, ?_, ?_⟩
          · unfold zld
            rw [t1.2, if_neg Bool.false_ne_true, (f1 x0).2.1, zo6 hg]; simp
          · unfold zld
            rw [t1.2, if_neg Bool.false_ne_true]; exact hp
      · rw [(zpe (a := a) (p := g.at_) x0 t1).1] at hx; cases hx
    · rw [(zo2 (a := a) (p := g.at_) (kn := kn) (here := here) (n := n + k) (w := g.name) x0).1] at hx; exact absurd hx x0
  · intro hx
    by_cases x0 : x = 0
    · have hp := hpure x0
      cases t1 : ((ji kn g.name).isSome || here.contains g.name)
      · rw [t1, if_neg Bool.false_ne_true] at hp
        by_cases t2 : 64 ≤ n + k
        · rw [(zoi (a := a) (p := g.at_) x0 t1 t2).1, (zoi (a := a) (p := g.at_) x0 t1 t2).2]; rw [if_pos t2] at hp; exact hRF _ _ hp
        · rw [(zu4 (a := a) (p := g.at_) x0 t1 t2).1] at hx; exact absurd rfl hx
      · rw [t1, if_pos rfl] at hp
        rw [(zpe (a := a) (p := g.at_) x0 t1).1, (zpe (a := a) (p := g.at_) x0 t1).2]; exact hRF _ _ hp
    · rw [(zo2 (a := a) (p := g.at_) (kn := kn) (here := here) (n := n + k) (w := g.name) x0).1, (zo2 (a := a) (p := g.at_) (kn := kn) (here := here) (n := n + k) (w := g.name) x0).2]; exact f2 x0
theorem ycm {P : RP} {hb h h0 K : Heap} {i0 i q km n k : Nat} {kn : Kn} {gs : List Gv} {row : List Value} {N : Nat → Prop} {R0 : CR Stm} {rm : Value} {g : Gv} {b : Nat} (eb : Rd P hb i0 0 0 0) (hkb : hb.length ≤ km) (hql : q < h.length) (hkl : km < h.length) (hr : row.length = 4) (hNk : N km) (e : LkB P h h0 i q km n kn gs row N R0 rm k K) (hg : gs[k]? = some g) :
    ∃ x a, Rd P (K ++ [.cells (v7 g (pt b)) 0 false]) i 0 x a ∧ Heap.read1 (K ++ [.cells (v7 g (pt b)) 0 false]) ⟨q, 0, some 0⟩ = some (pt P.r) ∧ Heap.read1 (K ++ [.cells (v7 g (pt b)) 0 false]) ⟨q, 1, some 0⟩ = some (.map (some km)) ∧
      ((x ≠ 0 ∧ LkB P h h0 i q km n kn gs row N R0 rm (k + 1) (K ++ [.cells (v7 g (pt b)) 0 false])) ∨ (x = 0 ∧ ∃ K', updO (K ++ [.cells (v7 g (pt b)) 0 false]) .str (.map (some km)) (str g.name) (.bool false) = some (undef, K') ∧ LkB P h h0 i q km n kn gs row N R0 rm (k + 1) K')) := by
  obtain ⟨here, kn', x, a, l, f1, f2⟩ := e
  have l' := l.more [.cells (v7 g (pt b)) 0 false]
  obtain ⟨nq, nk, nh, n3, qk, qh, b3k, b3h⟩ := l.ne hr
  refine ⟨x, a, l'.rd, we l'.cq, we l'.cq, ?_⟩
  by_cases x0 : x = 0
  · right
    refine ⟨x0, ?_⟩
    obtain ⟨a0, h1, h2, h4⟩ := f1 x0
    obtain ⟨g1, g2⟩ := zkm h4 k g hg
    have hnew : ji kn' g.name = none := by
      rw [h2, gx, g1, zek _ (fun _ => false) _ (by simpa using g2)]; rfl
    have hu := znj _ l'.ck (zi3 hnew false)
    have lk := (List.getElem?_eq_some_iff.1 l'.ck).1
    refine ⟨_, hu, here, kn' ++ [(g.name, false)], x, a, ⟨eb.upd l'.rd hkb _, by rw [List.getElem?_set_ne (Ne.symm qk)]; exact l'.cq, by rw [List.getElem?_set_self lk], by rw [List.getElem?_set_ne (by omega)]; exact l'.ch, by rw [List.getElem?_set_ne (by omega)]; exact l'.rw, l'.kp.set hNk _⟩, fun _ => ⟨a0, h1, ?_, h4⟩, fun h => absurd x0 h⟩
    rw [h2, zo6 hg]; simp
  · exact .inl ⟨x0, here, kn', x, a, l', fun h => absurd h x0, f2⟩
theorem LkA.rm {P : RP} {hb h h0 K : Heap} {i0 i q km n k : Nat} {kn : Kn} {gs : List Gv} {row : List Value} {N : Nat → Prop} {R0 : CR Stm} {rm : Value} (eb : Rd P hb i0 0 0 0) (hqb : hb.length ≤ q) (hql : q < h.length) (hr : row.length = 4) (hNq : N q) (e : LkA P h h0 i q km n kn gs row N R0 rm k K) (rm' : Value) :
    ∃ K1, Heap.write1 K ⟨q, 2, some 0⟩ rm' = some K1 ∧ LkA P h h0 i q km n kn gs row N R0 rm' k K1 := by
  obtain ⟨here, x, a, l, f1, f2⟩ := e
  obtain ⟨nq, nk, nh, n3, qk, qh, b3k, b3h⟩ := l.ne hr
  have lq := (List.getElem?_eq_some_iff.1 l.cq).1
  exact ⟨K.set q (.cells [pt P.r, .map (some km), rm', .int .i64 ((n + k : Nat) : Int)] 0 false), by rw [ph l.cq (by simp)]; rfl, here, x, a, ⟨eb.upd l.rd hqb _, by rw [List.getElem?_set_self lq], by rw [List.getElem?_set_ne qk]; exact l.ck, by rw [List.getElem?_set_ne (by omega)]; exact l.ch, by rw [List.getElem?_set_ne (by omega)]; exact l.rw, l.kp.set hNq _⟩, f1, f2⟩
theorem LkA.row {P : RP} {h h0 K : Heap} {i q km n k : Nat} {kn : Kn} {gs : List Gv} {row : List Value} {N : Nat → Prop} {R0 : CR Stm} {rm : Value} (e : LkA P h h0 i q km n kn gs row N R0 rm k K) : K[h.length]? = some (.cells row 0 false) ∧ KpO P N h0 K := by
  obtain ⟨here, x, a, l, f1, f2⟩ := e; exact ⟨l.rw, l.kp⟩
theorem LkB.row {P : RP} {h h0 K : Heap} {i q km n k : Nat} {kn : Kn} {gs : List Gv} {row : List Value} {N : Nat → Prop} {R0 : CR Stm} {rm : Value} (e : LkB P h h0 i q km n kn gs row N R0 rm k K) : K[h.length]? = some (.cells row 0 false) ∧ KpO P N h0 K := by
  obtain ⟨here, kn', x, a, l, f1, f2⟩ := e; exact ⟨l.rw, l.kp⟩
theorem LkC.row {P : RP} {h h0 K : Heap} {i q km n k : Nat} {kn : Kn} {rc : Bool} {gs : List Gv} {vs : List Value} {S : Nat → Prop} {row : List Value} {N : Nat → Prop} {R0 : CR Stm} {rm : Value} (e : LkC P h h0 i q km n kn rc gs vs S row N R0 rm k K) : K[h.length]? = some (.cells row 0 false) ∧ KpO P N h0 K := by
  obtain ⟨here, kn', x, a, gs', l, f1, f2⟩ := e; exact ⟨l.rw, l.kp⟩
theorem LkD.row {P : RP} {h h0 K : Heap} {i q km n k : Nat} {kn : Kn} {rc : Bool} {gs : List Gv} {vs : List Value} {S : Nat → Prop} {row : List Value} {N : Nat → Prop} {R0 : CR Stm} {rm : Value} (e : LkD P h h0 i q km n kn rc gs vs S row N R0 rm k K) : K[h.length]? = some (.cells row 0 false) ∧ KpO P N h0 K := by
  obtain ⟨here, kn', x, a, gs', l, f1, f2⟩ := e; exact ⟨l.rw, l.kp⟩
theorem zum {P : RP} {hb h h0 K : Heap} {i0 i q km n k : Nat} {kn : Kn} {rc : Bool} {gs : List Gv} {vs : List Value} {S : Nat → Prop} {row : List Value} {N : Nat → Prop} {R0 : CR Stm} {rm : Value} {g : Gv} {v : Value} (eb : Rd P hb i0 0 0 0) (hhb : hb.length ≤ h.length) (hqb : hb.length ≤ q) (hkb : hb.length ≤ km) (hql : q < h.length) (hkl : km < h.length) (hr : row.length = 4) (hNS : ∀ z, S z → N z) (hS : ∀ z, S z → hb.length ≤ z ∧ z ≠ q ∧ z ≠ km ∧ z < h.length) (hrm : rm = if rc then .map (some (h.length + 1)) else .map none) (hK0 : h.length + 1 < h0.length)
    (e : LkC P h h0 i q km n kn rc gs vs S row N R0 rm k K) (hg : gs[k]? = some g) (hv : vs[k]? = some v) :
    ∃ b K2 t pl, v = pt b ∧ DF FF xn [pt q, v, .bool false] (K ++ [.cells (v7 g v) 0 false]) = some (tup [], K2) ∧ K2[K.length]? = some (.cells (v7 g v) 0 false) ∧ K2[h.length]? = some (.cells row 0 false) ∧ Heap.read1 K2 ⟨q, 0, some 0⟩ = some (pt P.r) ∧ Heap.read1 K2 ⟨b, 5, some 0⟩ = some (.bool t) ∧ Heap.read1 K2 ⟨b, 2, some 0⟩ = some (.int .i64 (pl : Int)) ∧
      (((rc && t) = false ∧ LkC P h h0 i q km n kn rc gs vs S row N R0 rm (k + 1) K2) ∨ ((rc && t) = true ∧ ∃ K3, DF FF x8 [pt P.r, .int .i64 41, .int .i64 (pl : Int)] K2 = some (tup [], K3) ∧ LkC P h h0 i q km n kn rc gs vs S row N R0 rm (k + 1) K3)) := by
  obtain ⟨here, kn', x, a, gs', l, G, hnm, f1, f2⟩ := e
  have lK : h0.length ≤ K.length := l.kp.2
  have hkl' : k < gs.length := (List.getElem?_eq_some_iff.1 hg).1
  have hlen : gs'.length = gs.length := by have := congrArg List.length hnm; simpa using this
  obtain ⟨g', hg'⟩ : ∃ g', gs'[k]? = some g' := ⟨_, List.getElem?_eq_getElem (by omega)⟩
  have hgn : g'.name = g.name ∧ g'.at_ = g.at_ := by
    have := congrArg (·[k]?) hnm
    simp only [List.getElem?_map, hg, hg', Option.map_some] at this
    simpa using this
  obtain ⟨nq, nk, nh, n3, qk, qh, b3k, b3h⟩ := l.ne hr
  have l1 := l.more [.cells (v7 g v) 0 false]
  have G1 : GsP (K ++ [.cells (v7 g v) 0 false]) S vs gs' := G.keep fun b o _ ho => xa _ ho
  obtain ⟨v', Sk, hv', tk, hSk, back⟩ := G1.focus hg'
  have : v' = v := by rw [hv] at hv'; exact (Option.some.inj hv').symm
  subst this
  obtain ⟨b, op1, w1, l1', r1, rfl, hbSk, hbo⟩ := tk.root
  have hbS := hSk b hbSk
  have nr : ∀ z, S z → z ≠ P.r := fun z hz => by have := (hS z hz).1; have := eb.lr; omega
  have hlast : (K ++ [AObj.cells (v7 g (pt b)) 0 false])[K.length]? = some (.cells (v7 g (pt b)) 0 false) := by simp
  have nm : ∀ e', ((gs'.set k ⟨g'.name, g'.at_, e'⟩).map fun g => (g.name, g.at_)) = gs.map fun g => (g.name, g.at_) := fun e' => by
    rw [← hnm, List.map_set]
    apply List.ext_getElem?
    intro j
    by_cases hj : k = j
    · subst hj
      rw [List.getElem?_set_self (by simp; omega), List.getElem?_map, hg']; rfl
    · rw [List.getElem?_set_ne hj]
  by_cases x0 : x = 0
  · obtain ⟨a0, h1, h2, h3, lst, hll, hgs, hR, hset⟩ := f1 x0
    subst x0 a0
    have hgg : g' = g := by
      have h5 : gs'[k]? = gs[k]? := by
        rw [hgs, List.getElem?_append_right (by omega), hll, Nat.sub_self, List.getElem?_drop, Nat.add_zero]
      rw [hg', hg] at h5; exact Option.some.inj h5
    subst hgg
    have ch : Ch P (K ++ [.cells (v7 g' (pt b)) 0 false]) q km rm (n + gs.length) kn' (rcIn rc gs) := ⟨l1.cq, l1.ck, by
      cases hrc : rc
      · rw [hrc] at hrm; exact .inl ⟨hrm, rfl⟩
      · rw [hrc] at hrm; refine .inr ⟨h.length + 1, hrm, ?_⟩
        have := h1 hrc
        have hc := l1.ch
        rw [this] at hc
        exact hc⟩
    obtain ⟨K2, c2, r2, k2⟩ := zhr P kn' (rcIn rc gs) g'.e false hb _ i0 i q km (n + gs.length) rm Sk (pt b) eb l1.rd ch tk ⟨fun z hz => (hS z (hSk z hz)).1, fun h => (hS _ (hSk _ h)).2.1 rfl, fun h => (hS _ (hSk _ h)).2.2.1 rfl, fun b' hb' h' => by
        cases hrc : rc
        · rw [hrm, hrc] at hb'; cases hb'
        · rw [hrm, hrc] at hb'; simp at hb'; have := (hS _ (hSk _ h')).2.2.2; omega⟩ (fun z hz => by have := (hS z (hSk z hz)).2.2.2; simp; omega)
    have keep := fun z o (hz : ¬ Sk z) (hr : z ≠ P.r) ho => k2.keep z o ho hz hr
    have nSk : ∀ z, h.length ≤ z → ¬ Sk z := fun z hz h' => by have := (hS z (hSk z h')).2.2.2; omega
    have l2 : ∀ x' a', Rd P K2 i 0 x' a' → LkS P N h0 K2 i q km (h.length + 1) h.length (n + gs.length) rm here kn' row x' a' := fun x' a' e2 =>
      ⟨e2, keep _ _ (fun h => (hS _ (hSk _ h)).2.1 rfl) nq l1.cq, keep _ _ (fun h => (hS _ (hSk _ h)).2.2.1 rfl) nk l1.ck, keep _ _ (nSk _ (by omega)) nh l1.ch, keep _ _ (nSk _ (by omega)) n3 l1.rw, (l1.kp.trans k2.o).weak fun z _ hz => hz.elim id fun h => hNS z (hSk z h)⟩
    have row2 := keep _ _ (nSk _ (by have := lK; omega)) (by have := l.rd.lr; omega) hlast
    have hR2 : R0 = (match chkE kn' (rcIn rc gs) false g'.e with | .bad c a => CR.bad c a | .ok x => if rc && x.set then .bad 41 g'.e.pl else (match zda kn' (rcIn rc gs) rc (gs.drop (k + 1)) with | .bad c a => .bad c a | .ok m => .ok (.lets rc (lst ++ (⟨g'.name, g'.at_, x⟩ :: m))))) := by
      rw [hR, zdf hg, zda]
      cases chkE kn' (rcIn rc gs) false g'.e with
      | bad c a => rfl
      | ok y =>
        simp only
        by_cases t : (rc && y.set) = true
        · rw [if_pos t, if_pos t]
        · rw [if_neg t, if_neg t]
          cases zda kn' (rcIn rc gs) rc (gs.drop (k + 1)) <;> rfl
    have GB : ∀ e', TreeP K2 Sk (pt b) e' → GsP K2 S vs (gs'.set k ⟨g'.name, g'.at_, e'⟩) := fun e' t' => back K2 e' t' fun z o hz hn ho => keep z o hn (nr z hz) ho
    cases hc : chkE kn' (rcIn rc gs) false g'.e with
    | bad c ca =>
      rw [hc] at r2 hR2
      obtain ⟨hc0, ⟨e', t', hp⟩, e2⟩ := r2
      obtain ⟨b', op', w', l', r', hpb, _, hbx'⟩ := t'.root
      have hpb : b = b' := by simpa using hpb
      subst hpb
      refine ⟨b, K2, e'.set, e'.pl, rfl, c2, row2, (l2 _ _ e2).rw, we (l2 _ _ e2).cq, we hbx', we hbx', ?_⟩
      have L2 : LkC P h h0 i q km n kn rc gs vs S row N R0 rm (k + 1) K2 := ⟨here, kn', c, ca, _, l2 _ _ e2, GB e' t', nm e', fun h => absurd h hc0, fun _ => hR2⟩
      cases ht : (rc && e'.set)
      · exact .inl ⟨rfl, L2⟩
      · exact .inr ⟨rfl, K2, zk5 e2 hc0 _ _, L2⟩
    | ok y =>
      rw [hc] at r2 hR2
      obtain ⟨t', hp, e2⟩ := r2
      obtain ⟨b', op', w', l', r', hpb, _, hbx'⟩ := t'.root
      have hpb : b = b' := by simpa using hpb
      subst hpb
      refine ⟨b, K2, y.set, y.pl, rfl, c2, row2, (l2 _ _ e2).rw, we (l2 _ _ e2).cq, we hbx', we hbx', ?_⟩
      cases ht : (rc && y.set)
      · simp only [ht, Bool.false_eq_true, if_false] at hR2
        refine .inl ⟨rfl, here, kn', 0, 0, _, l2 _ _ e2, GB y t', nm y, fun _ => ⟨rfl, h1, h2, h3, lst ++ [⟨g'.name, g'.at_, y⟩], by simp [hll], ?_, by rw [hR2]; cases zda kn' (rcIn rc gs) rc (gs.drop (k + 1)) <;> simp, ?_⟩, fun h => absurd rfl h⟩
        · rw [hgs, List.set_append_right _ _ (by omega), hll, Nat.sub_self, zdf hg]; simp
        · intro hrc g2 hg2
          rcases List.mem_append.1 hg2 with hg2 | hg2
          · exact hset hrc g2 hg2
          · simp at hg2; subst hg2; rw [hrc, Bool.true_and] at ht; exact ht
      · simp only [ht, if_true] at hR2
        obtain ⟨K3, q3, e3, m3⟩ := zjx e2 41 y.pl (by omega)
        have k3 := (m3.kp fun o ho => by rw [e3.hc, ← e2.hc]; exact ho)
        refine .inr ⟨rfl, K3, q3, here, kn', 41, y.pl, _, ⟨e3, k3.keep _ _ (l2 _ _ e2).cq id nq, k3.keep _ _ (l2 _ _ e2).ck id nk, k3.keep _ _ (l2 _ _ e2).ch id nh, k3.keep _ _ (l2 _ _ e2).rw id n3, ((l2 _ _ e2).kp.trans k3.o).weak fun z _ hz => hz.elim id False.elim⟩, (GB y t').keep fun z o hz ho => k3.keep z o ho id (nr z hz), nm y, fun h => by omega, fun _ => ?_⟩
        rw [hp]; exact hR2
  · refine ⟨b, _, g'.e.set, g'.e.pl, rfl, zuw l1.rd x0 l1.cq b false, hlast, l1.rw, we l1.cq, we hbo, we hbo, ?_⟩
    have L2 : LkC P h h0 i q km n kn rc gs vs S row N R0 rm (k + 1) (K ++ [.cells (v7 g (pt b)) 0 false]) := ⟨here, kn', x, a, gs', l1, G1, hnm, fun h => absurd h x0, f2⟩
    cases ht : (rc && g'.e.set)
    · exact .inl ⟨rfl, L2⟩
    · exact .inr ⟨rfl, _, zk5 l1.rd x0 _ _, L2⟩
theorem zt7 {P : RP} {hb h h0 K : Heap} {i0 i q km n k : Nat} {kn : Kn} {rc : Bool} {gs : List Gv} {vs : List Value} {S : Nat → Prop} {row : List Value} {N : Nat → Prop} {R0 : CR Stm} {rm : Value} {g : Gv} {v : Value} (eb : Rd P hb i0 0 0 0) (hkb : hb.length ≤ km) (hql : q < h.length) (hkl : km < h.length) (hr : row.length = 4) (hNk : N km) (hS : ∀ z, S z → hb.length ≤ z ∧ z ≠ q ∧ z ≠ km ∧ z < h.length)
    (e : LkD P h h0 i q km n kn rc gs vs S row N R0 rm k K) (hg : gs[k]? = some g) (hv : vs[k]? = some v) :
    ∃ b x a t, v = pt b ∧ Rd P (K ++ [.cells (v7 g v) 0 false]) i 0 x a ∧ Heap.read1 (K ++ [.cells (v7 g v) 0 false]) ⟨q, 0, some 0⟩ = some (pt P.r) ∧ Heap.read1 (K ++ [.cells (v7 g v) 0 false]) ⟨q, 1, some 0⟩ = some (.map (some km)) ∧ Heap.read1 (K ++ [.cells (v7 g v) 0 false]) ⟨b, 5, some 0⟩ = some (.bool t) ∧
      ((x ≠ 0 ∧ LkD P h h0 i q km n kn rc gs vs S row N R0 rm (k + 1) (K ++ [.cells (v7 g v) 0 false])) ∨ (x = 0 ∧ ∃ K', updO (K ++ [.cells (v7 g v) 0 false]) .str (.map (some km)) (str g.name) (.bool t) = some (undef, K') ∧ LkD P h h0 i q km n kn rc gs vs S row N R0 rm (k + 1) K')) := by
  obtain ⟨here, kn', x, a, gs', l, G, hnm, f1, f2⟩ := e
  have hkl' : k < gs.length := (List.getElem?_eq_some_iff.1 hg).1
  have hlen : gs'.length = gs.length := by have := congrArg List.length hnm; simpa using this
  obtain ⟨g', hg'⟩ : ∃ g', gs'[k]? = some g' := ⟨_, List.getElem?_eq_getElem (by omega)⟩
  have hgn : g'.name = g.name ∧ g'.at_ = g.at_ := by
    have := congrArg (·[k]?) hnm
    simp only [List.getElem?_map, hg, hg', Option.map_some] at this
    simpa using this
  obtain ⟨nq, nk, nh, n3, qk, qh, b3k, b3h⟩ := l.ne hr
  have l1 := l.more [.cells (v7 g v) 0 false]
  have G1 : GsP (K ++ [.cells (v7 g v) 0 false]) S vs gs' := G.keep fun b o _ ho => xa _ ho
  obtain ⟨v', Sk, hv', tk, hSk⟩ := G1.get k g' hg'
  have : v' = v := by rw [hv] at hv'; exact (Option.some.inj hv').symm
  subst this
  obtain ⟨b, op1, w1, l1', r1, rfl, hbSk, hbo⟩ := tk.root
  refine ⟨b, x, a, g'.e.set, rfl, l1.rd, we l1.cq, we l1.cq, we hbo, ?_⟩
  by_cases x0 : x = 0
  · right
    obtain ⟨a0, h3, h4, h5, h6⟩ := f1 x0
    refine ⟨x0, ?_⟩
    have lk := (List.getElem?_eq_some_iff.1 l1.ck).1
    have hgk := List.mem_of_getElem? hg'
    have fin : ∀ kn2, px .str (str g.name) (.bool g'.e.set) (knE kn') = some (knE kn2) → kn2 = (if rc then kn ++ j8 gs' else kn ++ j8 (gs'.take (k + 1))) → ∃ K', updO (K ++ [.cells (v7 g (pt b)) 0 false]) .str (.map (some km)) (str g.name) (.bool g'.e.set) = some (undef, K') ∧ LkD P h h0 i q km n kn rc gs vs S row N R0 rm (k + 1) K' := fun kn2 hs hk2 =>
      ⟨_, znj _ l1.ck hs, here, kn2, x, a, gs', ⟨eb.upd l1.rd hkb _, by rw [List.getElem?_set_ne (Ne.symm qk)]; exact l1.cq, by rw [List.getElem?_set_self lk], by rw [List.getElem?_set_ne (by omega)]; exact l1.ch, by rw [List.getElem?_set_ne (by omega)]; exact l1.rw, l1.kp.set hNk _⟩, G1.keep fun z o hz ho => by rw [List.getElem?_set_ne (Ne.symm (hS z hz).2.2.1)]; exact ho, hnm, fun _ => ⟨a0, h3, h4, h5, hk2⟩, fun h => absurd x0 h⟩
    cases hrc : rc
    · rw [hrc, if_neg Bool.false_ne_true] at h6
      obtain ⟨g1, g2⟩ := zkm h3 k g hg
      have hnew : ji kn' g.name = none := by
        rw [h6, gx, g1]
        have hnames : (gs'.take k).map (·.name) = (gs.take k).map (·.name) := by
          have := congrArg (fun l => (l.take k).map (·.1)) hnm
          simpa [List.map_take, List.map_map, Function.comp_def] using this
        have : ji (j8 (gs'.take k)) g.name = none := zek _ (fun g => g.e.set) _ (by rw [hnames]; simpa using g2)
        rw [this]; rfl
      rw [hrc] at fin
      refine fin _ (zi3 hnew _) ?_
      rw [if_neg Bool.false_ne_true, h6, zo6 hg', j8, j8, List.map_append, hgn.1.symm]; simp
    · rw [hrc, if_pos rfl] at h6
      rw [hrc] at fin
      have hs := h5 hrc g' hgk
      refine fin kn' (zni ?_) (by rw [if_pos rfl, h6])
      obtain ⟨g1, g2⟩ := zkm h3 k g hg
      rw [h6, gx, g1, hs]
      have hsp : j8 gs' = j8 (gs'.take k) ++ (g'.name, g'.e.set) :: j8 (gs'.drop (k + 1)) := by
        unfold j8
        rw [← List.map_cons (f := fun g : Gv => (g.name, g.e.set)), ← List.map_append, ← zdf hg', List.take_append_drop]
      have hnames : (gs'.take k).map (·.name) = (gs.take k).map (·.name) := by
        have := congrArg (fun l => (l.take k).map (·.1)) hnm
        simpa [List.map_take, List.map_map, Function.comp_def] using this
      have : ji (j8 (gs'.take k)) g.name = none := zek _ (fun g => g.e.set) _ (by rw [hnames]; simpa using g2)
      rw [hsp, gx, this, ji, hgn.1, hs]; simp
  · exact .inl ⟨x0, here, kn', x, a, gs', l1, G1, hnm, fun h => absurd h x0, f2⟩
theorem ge (g : Gv) (v : Value) : (v7 g v).length = 3 := by simp [v7]
theorem zge (g : Gv) (v : Value) : (v7 g v)[0]? = some (str g.name) := rfl
theorem zeq (g : Gv) (v : Value) : (v7 g v)[2]? = some v := rfl
theorem zue {P : RP} {h h0 K : Heap} {i q km n : Nat} {kn : Kn} {rc : Bool} {gs : List Gv} {vs : List Value} {S : Nat → Prop} {row : List Value} {N N' : Nat → Prop} {rm : Value} (hN : ∀ z, N z → N' z) (hc : GsP K S vs gs)
    (hrc : (rc = true ∧ LkB P h h0 i q km n kn gs row N (chkS kn n (.lets rc gs)) rm gs.length K) ∨ (rc = false ∧ LkA P h h0 i q km n kn gs row N (chkS kn n (.lets rc gs)) rm gs.length K)) : LkC P h h0 i q km n kn rc gs vs S row N' (chkS kn n (.lets rc gs)) rm 0 K := by
  have hR : py kn n [] gs = .ok () → chkS kn n (.lets rc gs) = (match zda (knIn kn rc gs) (rcIn rc gs) rc (gs.drop 0) with | .bad c a => .bad c a | .ok m => .ok (.lets rc ([] ++ m))) := fun hf => by
    rw [chkS, hf, List.drop_zero]
    unfold knIn rcIn
    simp only
    cases zda (if rc = true then kn ++ gs.map (fun g => (g.name, false)) else kn) (if rc = true then gs.map (·.name) else []) rc gs <;> rfl
  rcases hrc with ⟨rfl, here, kn', x, a, l, f1, f2⟩ | ⟨rfl, here, x, a, l, f1, f2⟩
  · refine ⟨here, kn', x, a, gs, l.weak hN, hc, rfl, fun x0 => ?_, f2⟩
    obtain ⟨a0, h1, h2, h3⟩ := f1 x0
    have hk : kn' = knIn kn true gs := by rw [h2, List.take_length]; rfl
    exact ⟨a0, fun _ => h1, hk, h3, [], rfl, by simp, by rw [hk]; exact hR h3, fun _ g hg => by cases hg⟩
  · refine ⟨here, kn, x, a, gs, l.weak hN, hc, rfl, fun x0 => ?_, f2⟩
    obtain ⟨a0, h1, h3⟩ := f1 x0
    rw [List.drop_length] at h3
    exact ⟨a0, (fun h => by cases h), rfl, h3, [], rfl, by simp, hR h3, fun _ g hg => by cases hg⟩
theorem zz2 {P : RP} {h h0 K : Heap} {i q km n : Nat} {kn : Kn} {rc : Bool} {gs : List Gv} {vs : List Value} {S : Nat → Prop} {row : List Value} {N : Nat → Prop} {R0 : CR Stm} {rm : Value} (e : LkC P h h0 i q km n kn rc gs vs S row N R0 rm gs.length K) : LkD P h h0 i q km n kn rc gs vs S row N R0 rm 0 K := by
  obtain ⟨here, kn', x, a, gs', l, G, hnm, f1, f2⟩ := e
  refine ⟨here, kn', x, a, gs', l, G, hnm, fun x0 => ?_, f2⟩
  obtain ⟨a0, h1, h2, h3, lst, hll, hgs, hR, hset⟩ := f1 x0
  rw [List.drop_length, List.append_nil] at hgs
  rw [List.drop_length, zda] at hR
  subst hgs
  refine ⟨a0, h3, by rw [hR]; simp, hset, ?_⟩
  rw [h2]
  unfold knIn
  cases hrc : rc
  · simp [j8]
  · rw [if_pos rfl, if_pos rfl]
    have hn : gs.map (·.name) = gs'.map (·.name) := by
      have := congrArg (List.map (·.1)) hnm
      simpa [List.map_map, Function.comp_def] using this.symm
    have : gs.map (fun g => (g.name, false)) = j8 gs' := by
      have e1 : gs.map (fun g => (g.name, false)) = (gs.map (·.name)).map fun w => (w, false) := by simp
      have e2 : j8 gs' = (gs'.map (·.name)).map fun w => (w, false) := by
        unfold j8
        rw [List.map_map]
        apply List.map_congr_left
        intro g hg
        simp [hset hrc g hg]
      rw [e1, e2, hn]
    rw [this]
set_option maxHeartbeats 8000000 in
theorem zyj (P : RP) (kn : Kn) (rc : Bool) (gs : List Gv) : yes P kn (.lets rc gs) := by
  intro hb h i0 i q km n rm T row eb eh hq hk st hT hqb hkb hn hgs
  obtain ⟨s, vs, S, rfl, hsl, hG, hS, hbs⟩ := st
  have hlen : gs.length ≤ 8192 := hgs rc gs rfl
  have lq := (List.getElem?_eq_some_iff.1 hq).1
  have lk := (List.getElem?_eq_some_iff.1 hk).1
  have lr := eh.lr
  have hhb : hb.length ≤ h.length := by omega
  have nq : q ≠ P.r := by rintro rfl; have := eh.hr.symm.trans hq; simp at this
  have nk : km ≠ P.r := by rintro rfl; have := eh.hr.symm.trans hk; simp at this
  have hvl := hG.len
  have lens : ∀ K, lenO K s = some (.int .i64 (gs.length : Int), K) := fun K => by rw [hsl.len, zep hvl]
  have hS' : ∀ z, S z → hb.length ≤ z ∧ z ≠ q ∧ z ≠ km ∧ z < h.length := fun z hz => hT z (hS z hz).1
  have : ∃ v' h', DF FF kb [pt q, agg [str (kwOf rc), s, nilP, str []]] h = some (v', h') ∧ (v' = tup [] ∧ LookR P i q km n kn T [str (kwOf rc), s, nilP, str []] h' (chkS kn n (.lets rc gs)) ∧ KpO P (fun z => T z ∨ z = q ∨ z = km) h h') := by
    refine wz zdp ?_
    obtain ⟨row, hrow⟩ : ∃ row, row = [str (kwOf rc), s, nilP, str []] := ⟨_, rfl⟩
    have hr4 : row.length = 4 := by rw [hrow]; rfl
    obtain ⟨h0, hh0⟩ : ∃ h0, h0 = h ++ [AObj.cells [str (kwOf rc), s, nilP, str []] 0 false, .map []] := ⟨_, rfl⟩
    have e0 : Rd P h0 i 0 0 0 := by rw [hh0]; exact eh.more _
    have k0 : KpO P (fun _ => False) h h0 := by rw [hh0]; exact KpO.add _ _ _ _
    have g0 : h0[h.length]? = some (.cells row 0 false) := by rw [hh0, hrow]; simp
    have gm0 : h0[h.length + 1]? = some (.map []) := by rw [hh0]; simp
    have lh0 : h.length + 1 < h0.length := by rw [hh0]; simp
    obtain ⟨N, hN⟩ : ∃ N : Nat → Prop, N = fun z => z = q ∨ z = km ∨ z = h.length + 1 ∨ S z := ⟨_, rfl⟩
    have hNq : N q := by rw [hN]; exact .inl rfl
    have hNk : N km := by rw [hN]; exact .inr (.inl rfl)
    have hNh : N (h.length + 1) := by rw [hN]; exact .inr (.inr (.inl rfl))
    obtain ⟨M, hM⟩ : ∃ M : Nat → Prop, M = fun z => z = q ∨ z = km ∨ z = h.length + 1 := ⟨_, rfl⟩
    have hMq : M q := by rw [hM]; exact .inl rfl
    have hMk : M km := by rw [hM]; exact .inr (.inl rfl)
    have hMh : M (h.length + 1) := by rw [hM]; exact .inr (.inr rfl)
    have hMN : ∀ z, M z → N z := fun z hz => by rw [hM] at hz; rw [hN]; exact hz.imp id fun h => h.imp id .inl
    have GK : ∀ K, KpO P M h0 K → GsP K S vs gs := fun K kK => hG.keep fun z o hz ho => kK.keep z o (k0.keep z o ho id (by have := (hS' z hz).1; have := eb.lr; omega)) (by
      rw [hM]; have h1 := hS' z hz
      rintro (h2 | h2 | h2)
      · exact h1.2.1 h2
      · exact h1.2.2.1 h2
      · omega) (by have := (hS' z hz).1; have := eb.lr; omega)
    have hNS : ∀ z, S z → N z := fun z hz => by rw [hN]; exact .inr (.inr (.inr hz))
    obtain ⟨R0, hR0⟩ : ∃ R0, R0 = chkS kn n (.lets rc gs) := ⟨_, rfl⟩
    have hRF : ∀ c a, py kn n [] gs = .bad c a → R0 = .bad c a := fun c a hf => by rw [hR0, chkS, hf]
    have LA0 : LkA P h h0 i q km n kn gs row M R0 rm 0 h0 := ⟨[], 0, 0, ⟨e0, k0.keep _ _ hq id nq, k0.keep _ _ hk id nk, gm0, g0, ⟨fun b o ho _ _ => ho, Nat.le_refl _⟩⟩, fun _ => ⟨rfl, rfl, rfl⟩, fun h => absurd rfl h⟩
    have slK : ∀ K, KpO P N h0 K → Sl K s 3 (List.zipWith v7 gs vs) := fun K kK => hsl.keep fun b hb' o ho => kK.keep b o (k0.keep b o ho id (by have := (hT b (hbs b hb')).1; have := eb.lr; omega)) (by
      rw [hN]
      have h1 := hT b (hbs b hb')
      rintro (h2 | h2 | h2 | h2)
      · exact h1.2.1 h2
      · exact h1.2.2.1 h2
      · omega
      · exact (hS b h2).2 hb') (by have := (hT b (hbs b hb')).1; have := eb.lr; omega)
    have hvb : ∀ k, k < gs.length → ∃ g b, gs[k]? = some g ∧ vs[k]? = some (pt b) ∧ (∀ K, KpO P N h0 K → ∃ b' o v, (∀ H', rowO H' 3 s (.int .i64 (k : Int)) = some (.pointer (some ⟨b', o, some v⟩), H')) ∧ Heap.read K ⟨b', o, some v⟩ 3 = some (v7 g (pt b))) := fun k hk => by
      have hg : gs[k]? = some gs[k] := List.getElem?_eq_getElem hk
      obtain ⟨v, Sk, hv, tk, _⟩ := hG.get k gs[k] hg
      obtain ⟨b, _, _, _, _, rfl, _, _⟩ := tk.root
      refine ⟨gs[k], b, hg, hv, fun K kK => ?_⟩
      obtain ⟨b', o, v, a1, a2⟩ := (slK K kK).atH (k := k) (by rw [zep hvl]; exact hk)
      refine ⟨b', o, v, a1, ?_⟩
      rw [a2]
      have := zzl hvl hg hv
      rw [List.getElem?_eq_getElem (by rw [zep hvl]; exact hk)] at this
      exact this
    have rg0 : ∀ j, Heap.read1 h0 ⟨h.length, j, some 0⟩ = ([str (kwOf rc), s, nilP, str []] : List Value)[j]? := fun j => by rw [← hrow]; exact we g0
    have hrk : ∀ K, K[h.length]? = some (.cells row 0 false) → ∀ j, Heap.read1 K ⟨h.length, j, some 0⟩ = ([str (kwOf rc), s, nilP, str []] : List Value)[j]? := fun K hK j => by rw [← hrow]; exact we hK
    simp only [qt, z7, zb, z8, zn, zc, zo, zf, ze, zd, List.set_cons_succ, List.set_cons_zero, O_mv, yg, j7, zz, zk, List.cons_append, List.nil_append, List.length_cons, List.length_nil, Nat.reduceAdd, Nat.reduceSub, Nat.zero_add, zm, yb, zx, za, w8, xc, z6, zh, zg, List.append_assoc, List.length_append, List.getElem?_cons_zero, List.getElem?_cons_succ, eq_self, yh, zt, yi, yh, zt, ze6, ← hh0, rg0, lens]
    refine bk 0 gs.length (LkA1 P h h0 i q km n kn gs s row M R0 rm) (LkA2 P h h0 i q km n kn gs row M R0 rm gs.length) ?_ ?_ _ ⟨h0, junk rfl, LA0⟩ ?_
    · rintro k st hk' ⟨K, ⟨j, rfl⟩, e⟩
      obtain ⟨g, b, hg, hv, hat⟩ := hvb k hk'
      obtain ⟨b', o, v, a1, a2⟩ := hat K (e.row.2.weak fun z _ h => hMN z h)
      obtain ⟨K', q', e'⟩ := ybf (b := b) eb hqb hhb lq lk hr4 (by omega) hMq hMh hRF e hg
      have h1 : ((k : Int) < (gs.length : Int)) = True := by simp; omega
      simp only [z7, zr, yl, zb, zw, z8, zn, zc, zp, zo, zf, ze, zd, List.set_cons_succ, List.set_cons_zero, O_mv, yu, yg, yf, List.map_cons, List.map_nil, vh, x7, y8, vj, xy, List.length_cons, List.length_nil, Nat.reduceAdd, Nat.zero_add, zm, yb, zx, za, zi, y0, zl, y4, ya, xr, xh, yk, zy, zs, Option.map_some, eq_self, yp, Option.map_some, decide_true, h1, a1, a2, ge, q', xm (k := k) (by omega)]
      exact ⟨K', junk rfl, e'⟩
    · rintro st ⟨K, ⟨j, rfl⟩, e⟩
      have h1 : ((gs.length : Int) < (gs.length : Int)) = False := by simp
      simp only [z7, zr, w6, zb, zu, z8, zn, zc, zo, ze, zd, List.set_cons_succ, List.set_cons_zero, yu, yg, xy, zm, yb, za, yx, gj, xj, decide_false, h1, gj]
      exact ⟨K, junk rfl, e⟩
    rintro st ⟨K, ⟨j, rfl⟩, e⟩
    obtain ⟨K1, w1, e1⟩ := e.rm eb hqb lq hr4 hMq (.map none)
    have toLast : ∀ K rm', LkD P h h0 i q km n kn rc gs vs S row N R0 rm' gs.length K → ∀ w, LookR P i q km n kn T [str (kwOf rc), s, nilP, str []] (AM.finish h w K) (chkS kn n (.lets rc gs)) ∧ KpO P (fun z => T z ∨ z = q ∨ z = km) h (AM.finish h w K) := by
      intro K rm' e w
      obtain ⟨here, kn', x, a, gs', l, G, hnm, f1, f2⟩ := e
      have kk : KpO P (fun z => T z ∨ z = q ∨ z = km) h K := (k0.trans l.kp).weak fun z hz hz' => hz'.elim False.elim fun h2 => by
        rw [hN] at h2
        rcases h2 with h2 | h2 | h2 | h2
        · exact .inr (.inl h2)
        · exact .inr (.inr h2)
        · omega
        · exact .inl (hS z h2).1
      refine LookR.fin eh lq lk kk (fun z hz => (hT z hz).2.2.2) ?_ w
      rw [← hR0]
      by_cases x0 : x = 0
      · obtain ⟨a0, h3, h4, h5, h6⟩ := f1 x0
        subst x0 a0
        have hgl : gs'.length = gs.length := by have := congrArg List.length hnm; simpa using this
        have hk6 : kn' = kn ++ j8 gs' := by rw [h6, ← hgl, List.take_length]; simp
        rw [h4]
        refine ⟨⟨s, vs, S, rfl, ?_, G, hS, hbs⟩, l.rd, ⟨rm', ?_⟩, ?_⟩
        · rw [zuo vs hnm]; exact slK K l.kp
        · have : (Stm.lets rc gs').given.length = gs.length := by simp [Stm.given, j8, hgl]
          rw [this]; exact l.cq
        · have := l.ck; rw [hk6] at this; exact this
      · rw [f2 x0]; exact ⟨x0, l.rd⟩
    have rm_ok : ∀ K rm', LkC P h h0 i q km n kn rc gs vs S row N R0 rm' 0 K → True := fun _ _ _ => trivial
    cases hrc : rc
    · subst hrc
      have hrg := hrk K1 e1.row.1
      simp only [z7, zr, yl, zb, zu, z8, zn, zc, zp, zo, zf, ze, zd, List.set_cons_succ, List.set_cons_zero, O_mv, yu, yg, j7, zz, zk, Nat.zero_add, zm, yb, zx, za, yj, xc, z6, zl, xd, zao, zq, zj, Nat.add_zero, List.getElem?_cons_zero, List.getElem?_cons_succ, w9, (show Heap.write1 K ⟨q, 2, some 0⟩ (.map none) = some K1 from w1), hrg, zpp, lens]
      have e3 : LkC P h h0 i q km n kn false gs vs S row N R0 (.map none) 0 K1 := by
        rw [hR0] at e1 ⊢
        exact zue hMN (GK K1 e1.row.2) (.inr ⟨rfl, e1⟩)
      have hrm3 : (.map none : Value) = if false then .map (some (h.length + 1)) else .map none := rfl
      refine bk 4 gs.length (LkC1 P h h0 i q km n kn false gs vs S s row N R0 (.map none)) (LkC2 P h h0 i q km n kn false gs vs S row N R0 (.map none) gs.length) ?_ ?_ _ ⟨K1, junk rfl, e3⟩ ?_
      · rintro k st hk' ⟨K, ⟨j, rfl⟩, e⟩
        obtain ⟨g, b, hg, hv, hat⟩ := hvb k hk'
        obtain ⟨b', o, v, a1, a2⟩ := hat K e.row.2
        obtain ⟨b2, K2', t, pl, hpb, c2, row2, rw2, rq2, rt5, rt2, fin⟩ := zum eb hhb hqb hkb lq lk hr4 hNS hS' hrm3 lh0 e hg hv
        have hpb : b = b2 := by simpa using hpb
        subst hpb
        have h1 : ((k : Int) < (gs.length : Int)) = True := by simp; omega
        rcases fin with ⟨ht, e'⟩ | ⟨ht, K3', hf, e'⟩
        · simp only [z7, zr, yl, zb, zw, zu, z8, zn, ye, zc, zp, w5, zo, zf, ze, zd, List.set_cons_succ, List.set_cons_zero, O_mv, yw, xf, yu, yg, yf, List.map_cons, List.map_nil, vh, zz, zk, x7, y8, vj, xy, List.length_cons, List.length_nil, Nat.reduceAdd, Nat.zero_add, zm, yb, zx, za, zi, y0, xc, z6, zl, y4, ya, yy, yq, yk, zy, zs, Nat.add_zero, Option.map_some, List.getElem?_cons_zero, eq_self, yp, w9, Option.map_some, decide_true, h1, a1, a2, ge, zeq, c2, hrk _ rw2, zpp, xm (k := k) (by omega)]
          exact ⟨_, junk rfl, e'⟩
        · rw [Bool.false_and] at ht; cases ht
      · rintro st ⟨K, ⟨j, rfl⟩, e⟩
        have h1 : ((gs.length : Int) < (gs.length : Int)) = False := by simp
        simp only [z7, zr, w6, zb, zu, z8, zn, zc, zo, ze, zd, List.set_cons_succ, List.set_cons_zero, yu, yg, xy, zm, yb, za, yx, gj, xj, decide_false, h1, gj]
        exact ⟨K, junk rfl, e⟩
      rintro st ⟨K4, ⟨j, rfl⟩, eC4⟩
      have hrg4 := hrk K4 eC4.row.1
      have eD := zz2 eC4
      simp only [z7, zb, z8, zn, zc, zo, zf, ze, zd, List.set_cons_succ, List.set_cons_zero, O_mv, yg, j7, zz, zk, Nat.zero_add, zm, yb, zx, za, yj, xc, z6, List.getElem?_cons_zero, List.getElem?_cons_succ, hrg4, lens]
      refine bk 6 gs.length (LkD1 P h h0 i q km n kn false gs vs S s row N R0 (.map none)) (LkD2 P h h0 i q km n kn false gs vs S row N R0 (.map none) gs.length) ?_ ?_ _ ⟨K4, junk rfl, eD⟩ ?_
      · rintro k st hk' ⟨K, ⟨j, rfl⟩, e⟩
        obtain ⟨g, b, hg, hv, hat⟩ := hvb k hk'
        obtain ⟨b', o, v, a1, a2⟩ := hat K e.row.2
        obtain ⟨b2, x, a, t, hpb, rd', rq0, rq1, rt5, fin⟩ := zt7 eb hkb lq lk hr4 hNk hS' e hg hv
        have hpb : b = b2 := by simpa using hpb
        subst hpb
        have h1 : ((k : Int) < (gs.length : Int)) = True := by simp; omega
        rcases fin with ⟨hx, e'⟩ | ⟨rfl, K', hu, e'⟩
        · simp only [z7, zr, yl, zb, zw, zu, z8, zn, zc, zp, zo, zf, ze, zd, List.set_cons_succ, List.set_cons_zero, O_mv, yu, yg, yf, List.map_cons, List.map_nil, vh, zz, zk, x7, y8, vj, xy, List.length_cons, List.length_nil, Nat.reduceAdd, Nat.zero_add, zm, yb, zx, za, zi, y0, xc, z6, zl, y4, ya, zq, zj, yk, zy, zs, Nat.add_zero, Option.map_some, eq_self, yp, Option.map_some, decide_true, h1, a1, a2, ge, rq0, fh rd' hx, xm (k := k) (by omega)]
          exact ⟨_, junk rfl, e'⟩
        · simp only [z7, zr, yl, zb, zw, z8, zn, zc, zp, zo, zf, ze, zd, List.set_cons_succ, List.set_cons_zero, O_mv, yu, yg, yf, List.map_cons, List.map_nil, vh, zz, zk, x7, y8, vj, xy, List.length_cons, List.length_nil, Nat.reduceAdd, Nat.zero_add, zm, yb, zx, za, zi, y0, xc, z6, zl, y4, ya, zq, zj, yy, yq, yk, zy, zs, Nat.add_zero, Option.map_some, eq_self, yp, Option.map_some, decide_true, h1, a1, a2, ge, rq0, rq1, ok_0 rd', zge, zeq, rt5, fy, hu, xm (k := k) (by omega)]
          exact ⟨_, junk rfl, e'⟩
      · rintro st ⟨K, ⟨j, rfl⟩, e⟩
        have h1 : ((gs.length : Int) < (gs.length : Int)) = False := by simp
        simp only [z7, zr, w6, zb, zu, z8, zn, zc, zo, ze, zd, List.set_cons_succ, List.set_cons_zero, yu, yg, xy, zm, yb, za, yx, gj, xj, decide_false, h1, gj]
        exact ⟨K, junk rfl, e⟩
      rintro st ⟨K5, ⟨j, rfl⟩, eD5⟩
      have hrg5 := hrk K5 eD5.row.1
      simp only [z7, zr, yl, zb, zu, z8, zn, zc, zo, zf, ze, zd, List.set_cons_succ, List.set_cons_zero, yg, zz, zk, Nat.zero_add, Bool.not_true, zm, yb, za, yj, xc, z6, List.getElem?_cons_zero, List.getElem?_cons_succ, Bool.bne_true, jq, eq_self, hrg5, po, xq, wn]
      exact ⟨trivial, toLast K5 _ eD5 _⟩
    · subst hrc
      obtain ⟨K2, w2, e2⟩ := e1.rm eb hqb lq hr4 hMq (.map (some (h.length + 1)))
      have hrg := hrk K1 e1.row.1
      have hrg2 := hrk K2 e2.row.1
      simp only [z7, zr, zb, zw, z8, zn, zc, zp, zo, zf, ze, zd, List.set_cons_succ, List.set_cons_zero, O_mv, yu, yg, j7, zz, zk, Nat.zero_add, zm, yb, zx, za, yj, xc, z6, zl, xd, zao, zq, zj, Nat.add_zero, List.getElem?_cons_zero, List.getElem?_cons_succ, w9, (show Heap.write1 K ⟨q, 2, some 0⟩ (.map none) = some K1 from w1), hrg, hrg2, zpp, w2, lens]
      have eB : LkB P h h0 i q km n kn gs row M R0 (.map (some (h.length + 1))) 0 K2 := by
        obtain ⟨here, x, a, l, f1, f2⟩ := e2
        exact ⟨here, kn, x, a, l, fun x0 => by
          obtain ⟨a0, h1, h2⟩ := f1 x0
          rw [List.take_length] at h1
          rw [List.drop_length] at h2
          exact ⟨a0, h1, by simp, h2⟩, f2⟩
      refine bk 2 gs.length (LkB1 P h h0 i q km n kn gs s row M R0 (.map (some (h.length + 1)))) (LkB2 P h h0 i q km n kn gs row M R0 (.map (some (h.length + 1))) gs.length) ?_ ?_ _ ⟨K2, junk rfl, eB⟩ ?_
      · rintro k st hk' ⟨K, ⟨j, rfl⟩, e⟩
        obtain ⟨g, b, hg, hv, hat⟩ := hvb k hk'
        obtain ⟨b', o, v, a1, a2⟩ := hat K (e.row.2.weak fun z _ h => hMN z h)
        obtain ⟨x, a, rd', rq0, rq1, fin⟩ := ycm (b := b) eb hkb lq lk hr4 hMk e hg
        have h1 : ((k : Int) < (gs.length : Int)) = True := by simp; omega
        rcases fin with ⟨hx, e'⟩ | ⟨rfl, K', hu, e'⟩
        · simp only [z7, zr, yl, zb, zw, zu, z8, zn, zc, zp, zo, zf, ze, zd, List.set_cons_succ, List.set_cons_zero, O_mv, yu, yg, yf, List.map_cons, List.map_nil, vh, zz, zk, x7, y8, vj, xy, List.length_cons, List.length_nil, Nat.reduceAdd, Nat.zero_add, zm, yb, zx, za, zi, y0, xc, z6, zl, y4, ya, zq, zj, yk, zy, zs, Nat.add_zero, Option.map_some, eq_self, yp, Option.map_some, decide_true, h1, a1, a2, ge, rq0, fh rd' hx, xm (k := k) (by omega)]
          exact ⟨_, junk rfl, e'⟩
        · simp only [z7, zr, yl, zb, zw, z8, zn, zc, zp, zo, zf, ze, zd, List.set_cons_succ, List.set_cons_zero, O_mv, yu, yg, yf, List.map_cons, List.map_nil, vh, zz, zk, x7, y8, vj, xy, List.length_cons, List.length_nil, Nat.reduceAdd, Nat.zero_add, zm, yb, zx, za, zi, y0, xc, z6, zl, y4, ya, zq, zj, yy, yq, yk, zy, zs, Nat.add_zero, Option.map_some, eq_self, yp, Option.map_some, decide_true, h1, a1, a2, ge, rq0, rq1, ok_0 rd', zge, fy, hu, xm (k := k) (by omega)]
          exact ⟨_, junk rfl, e'⟩
      · rintro st ⟨K, ⟨j, rfl⟩, e⟩
        have h1 : ((gs.length : Int) < (gs.length : Int)) = False := by simp
        simp only [z7, zr, w6, zb, zu, z8, zn, zc, zo, ze, zd, List.set_cons_succ, List.set_cons_zero, yu, yg, xy, zm, yb, za, yx, gj, xj, decide_false, h1, gj]
        exact ⟨K, junk rfl, e⟩
      rintro st ⟨K3, ⟨j, rfl⟩, eB3⟩
      have hrg3 := hrk K3 eB3.row.1
      simp only [z7, zb, z8, zn, zc, zo, zf, ze, zd, List.set_cons_succ, List.set_cons_zero, O_mv, yg, j7, zz, zk, Nat.zero_add, zm, yb, zx, za, yj, xc, z6, List.getElem?_cons_zero, List.getElem?_cons_succ, hrg3, lens]
      have e3 : LkC P h h0 i q km n kn true gs vs S row N R0 (.map (some (h.length + 1))) 0 K3 := by
        rw [hR0] at eB3 ⊢
        exact zue hMN (GK K3 eB3.row.2) (.inl ⟨rfl, eB3⟩)
      have hrm3 : (.map (some (h.length + 1)) : Value) = if true then .map (some (h.length + 1)) else .map none := rfl
      refine bk 4 gs.length (LkC1 P h h0 i q km n kn true gs vs S s row N R0 (.map (some (h.length + 1)))) (LkC2 P h h0 i q km n kn true gs vs S row N R0 (.map (some (h.length + 1))) gs.length) ?_ ?_ _ ⟨K3, junk rfl, e3⟩ ?_
      · rintro k st hk' ⟨K, ⟨j, rfl⟩, e⟩
        obtain ⟨g, b, hg, hv, hat⟩ := hvb k hk'
        obtain ⟨b', o, v, a1, a2⟩ := hat K e.row.2
        obtain ⟨b2, K2', t, pl, hpb, c2, row2, rw2, rq2, rt5, rt2, fin⟩ := zum eb hhb hqb hkb lq lk hr4 hNS hS' hrm3 lh0 e hg hv
        have hpb : b = b2 := by simpa using hpb
        subst hpb
        have h1 : ((k : Int) < (gs.length : Int)) = True := by simp; omega
        have rr2 : ∀ j, Heap.read1 K2' ⟨K.length, j, some 0⟩ = (v7 g (pt b))[j]? := fun j => we row2
        rw [Bool.true_and] at fin
        rcases fin with ⟨ht, e'⟩ | ⟨ht, K3', hf, e'⟩
        · rw [ht] at rt5
          simp only [z7, zr, yl, zb, zw, zu, z8, zn, ye, zc, zp, xl, zo, zf, ze, zd, List.set_cons_succ, List.set_cons_zero, O_mv, yw, xf, yu, yg, yf, List.map_cons, List.map_nil, vh, zz, zk, x7, y8, vj, xy, List.length_cons, List.length_nil, Nat.reduceAdd, Nat.zero_add, zm, yb, zx, za, zi, y0, xc, z6, zl, y4, ya, zq, zj, yy, yq, yk, zy, zs, Nat.add_zero, Option.map_some, List.getElem?_cons_zero, eq_self, yp, w9, Option.map_some, decide_true, h1, a1, a2, ge, zeq, c2, hrk _ rw2, zpp, rr2, rt5, xm (k := k) (by omega)]
          exact ⟨_, junk rfl, e'⟩
        · rw [ht] at rt5
          simp only [z7, zr, yl, zb, zw, z8, zn, ye, zc, zp, xl, zo, zf, ze, zd, List.set_cons_succ, List.set_cons_zero, O_mv, yw, xf, yu, yg, yf, List.map_cons, List.map_nil, vh, zz, zk, x7, y8, vj, xy, List.length_cons, List.length_nil, Nat.reduceAdd, Nat.zero_add, zm, yb, zx, za, zi, y0, xc, z6, zl, y4, ya, zq, zj, yy, yq, yk, zy, zs, Nat.add_zero, Option.map_some, List.getElem?_cons_zero, eq_self, yp, w9, Option.map_some, decide_true, h1, a1, a2, ge, zeq, c2, hrk _ rw2, zpp, rr2, rt5, rq2, rt2, hf, xm (k := k) (by omega)]
          exact ⟨_, junk rfl, e'⟩
      · rintro st ⟨K, ⟨j, rfl⟩, e⟩
        have h1 : ((gs.length : Int) < (gs.length : Int)) = False := by simp
        simp only [z7, zr, w6, zb, zu, z8, zn, zc, zo, ze, zd, List.set_cons_succ, List.set_cons_zero, yu, yg, xy, zm, yb, za, yx, gj, xj, decide_false, h1, gj]
        exact ⟨K, junk rfl, e⟩
      rintro st ⟨K4, ⟨j, rfl⟩, eC4⟩
      have hrg4 := hrk K4 eC4.row.1
      have eD := zz2 eC4
      simp only [z7, zb, z8, zn, zc, zo, zf, ze, zd, List.set_cons_succ, List.set_cons_zero, O_mv, yg, j7, zz, zk, Nat.zero_add, zm, yb, zx, za, yj, xc, z6, List.getElem?_cons_zero, List.getElem?_cons_succ, hrg4, lens]
      refine bk 6 gs.length (LkD1 P h h0 i q km n kn true gs vs S s row N R0 (.map (some (h.length + 1)))) (LkD2 P h h0 i q km n kn true gs vs S row N R0 (.map (some (h.length + 1))) gs.length) ?_ ?_ _ ⟨K4, junk rfl, eD⟩ ?_
      · rintro k st hk' ⟨K, ⟨j, rfl⟩, e⟩
        obtain ⟨g, b, hg, hv, hat⟩ := hvb k hk'
        obtain ⟨b', o, v, a1, a2⟩ := hat K e.row.2
        obtain ⟨b2, x, a, t, hpb, rd', rq0, rq1, rt5, fin⟩ := zt7 eb hkb lq lk hr4 hNk hS' e hg hv
        have hpb : b = b2 := by simpa using hpb
        subst hpb
        have h1 : ((k : Int) < (gs.length : Int)) = True := by simp; omega
        rcases fin with ⟨hx, e'⟩ | ⟨rfl, K', hu, e'⟩
        · simp only [z7, zr, yl, zb, zw, zu, z8, zn, zc, zp, zo, zf, ze, zd, List.set_cons_succ, List.set_cons_zero, O_mv, yu, yg, yf, List.map_cons, List.map_nil, vh, zz, zk, x7, y8, vj, xy, List.length_cons, List.length_nil, Nat.reduceAdd, Nat.zero_add, zm, yb, zx, za, zi, y0, xc, z6, zl, y4, ya, zq, zj, yk, zy, zs, Nat.add_zero, Option.map_some, eq_self, yp, Option.map_some, decide_true, h1, a1, a2, ge, rq0, fh rd' hx, xm (k := k) (by omega)]
          exact ⟨_, junk rfl, e'⟩
        · simp only [z7, zr, yl, zb, zw, z8, zn, zc, zp, zo, zf, ze, zd, List.set_cons_succ, List.set_cons_zero, O_mv, yu, yg, yf, List.map_cons, List.map_nil, vh, zz, zk, x7, y8, vj, xy, List.length_cons, List.length_nil, Nat.reduceAdd, Nat.zero_add, zm, yb, zx, za, zi, y0, xc, z6, zl, y4, ya, zq, zj, yy, yq, yk, zy, zs, Nat.add_zero, Option.map_some, eq_self, yp, Option.map_some, decide_true, h1, a1, a2, ge, rq0, rq1, ok_0 rd', zge, zeq, rt5, fy, hu, xm (k := k) (by omega)]
          exact ⟨_, junk rfl, e'⟩
      · rintro st ⟨K, ⟨j, rfl⟩, e⟩
        have h1 : ((gs.length : Int) < (gs.length : Int)) = False := by simp
        simp only [z7, zr, w6, zb, zu, z8, zn, zc, zo, ze, zd, List.set_cons_succ, List.set_cons_zero, yu, yg, xy, zm, yb, za, yx, gj, xj, decide_false, h1, gj]
        exact ⟨K, junk rfl, e⟩
      rintro st ⟨K5, ⟨j, rfl⟩, eD5⟩
      have hrg5 := hrk K5 eD5.row.1
      simp only [z7, zr, yl, zb, zu, z8, zn, zc, zo, zf, ze, zd, List.set_cons_succ, List.set_cons_zero, yg, zz, zk, Nat.zero_add, Bool.not_true, zm, yb, za, yj, xc, z6, List.getElem?_cons_zero, List.getElem?_cons_succ, Bool.bne_true, jq, eq_self, hrg5, po, xq, wn]
      exact ⟨trivial, toLast K5 _ eD5 _⟩
  obtain ⟨v', h', r, rfl, g⟩ := this
  exact ⟨h', r, g⟩
theorem zen (d : Bys × Bool) : (wq d).length = 2 := by simp [wq]
theorem zq7 (d : Bys × Bool) : (wq d)[0]? = some (str d.1) := rfl
theorem yaa (d : Bys × Bool) : (wq d)[1]? = some (.bool d.2) := rfl
theorem zyc (z0 z1 : Value) (d : Bys × Bool) : w4 [z0, z1] [(0, 2, agg (wq d))] = some (wq d) := by
  rw [w4, yh]; simp [splice, w4, wq]
theorem StsP.focus {h : Heap} : ∀ {T : Nat → Prop} {rows : List (List Value)} {l : List Stm} {k : Nat} {s : Stm}, StsP h T rows l → l[k]? = some s → ∃ row Tk, rows[k]? = some row ∧ StP h Tk row s ∧ (∀ z, Tk z → T z) ∧
    ∀ (h' : Heap) (s' : Stm), StP h' Tk row s' → (∀ b o, T b → ¬ Tk b → h[b]? = some o → h'[b]? = some o) → StsP h' T rows (l.set k s')
  | T, [], [], k, s, e, hk => by simp at hk
  | T, r :: rows, s' :: l, 0, s, e, hk => by
    obtain ⟨S1, S2, t, q, h1, h2⟩ := e
    cases hk
    exact ⟨r, S1, rfl, t, fun z hz => (h1 z hz).1, fun h' s2 t' keep => ⟨S1, S2, t', q.keep fun b o hb ho => keep b o (h2 b hb) (fun h3 => (h1 b h3).2 hb) ho, h1, h2⟩⟩
  | T, r :: rows, s' :: l, k + 1, s, e, hk => by
    obtain ⟨S1, S2, t, q, h1, h2⟩ := e
    obtain ⟨w, Tk, a, b, c, d⟩ := q.focus (k := k) (s := s) (by simpa using hk)
    exact ⟨w, Tk, by simpa using a, b, fun z hz => h2 z (c z hz), fun h' s2 t' keep => ⟨S1, S2, t.keep fun z o hz ho => keep z o (h1 z hz).1 (fun h3 => (h1 z hz).2 (c z h3)) ho, d h' s2 t' fun z o hz hn ho => keep z o (h2 z hz) hn ho, h1, h2⟩⟩
  | T, [], _ :: _, k, s, e, hk => e.elim
  | T, _ :: _, [], k, s, e, hk => e.elim
structure NmS (P : RP) (mb q km : Nat) (H5 K : Heap) (names : Kn) (k : Nat) (ss : Value) : Prop where
  ex : ∃ kn ks x y z, ks = .slice x y z ∧ K[km]? = some (.map (knE kn)) ∧ K[mb]? = some (.cells [ks, ss] 0 false) ∧ Own [] K ks 2 (kn.map wq) ∧ (∀ b, blk ks = some b → H5.length ≤ b) ∧ b7 [] names = b7 kn (names.drop k) ∧ kn.length ≤ k
  kp : (∀ (b : Nat) (o : AObj), H5[b]? = some o → b ≠ mb → b ≠ km → K[b]? = some o) ∧ H5.length ≤ K.length
  cq : K[q]? = H5[q]?
def NmI (P : RP) (mb q km : Nat) (H5 : Heap) (names : Kn) (ns ss : Value) (k : Nat) (st : St) : Prop := ∃ K, (∃ j : Nat → Value, st = ⟨[j 0, j 1, j 2, j 3, j 4, j 5, j 6, j 7, j 8, j 9, pt P.r, pt mb, pt q, j 13, j 14, j 15, j 16, j 17, j 18, j 19, j 20, j 21, j 22, j 23, j 24, j 25, j 26, j 27, j 28, j 29, j 30, j 31, j 32, j 33, j 34, j 35, j 36, j 37, j 38, j 39, j 40, j 41, j 42, j 43, j 44, j 45, j 46, j 47, j 48, j 49, j 50, j 51, j 52, j 53, j 54, j 55, j 56, j 57, j 58, j 59, j 60, j 61, j 62, j 63, j 64, j 65, ns, .int .i64 (names.length : Int), .int .i64 (k : Int), j 69, j 70, j 71, j 72, j 73, j 74, j 75, j 76, j 77, j 78, j 79, j 80, j 81, j 82, j 83, j 84, j 85, j 86, j 87, j 88, j 89, j 90, j 91, j 92, j 93, j 94, j 95, j 96, j 97, j 98, j 99, j 100, j 101, j 102, j 103, j 104, j 105, j 106, j 107, j 108, j 109, j 110, j 111, j 112, j 113, j 114, j 115, j 116, j 117, j 118, j 119, j 120, j 121, j 122, j 123, j 124, j 125, j 126, j 127, j 128, j 129, j 130], K⟩) ∧ NmS P mb q km H5 K names k ss
def NmO (P : RP) (mb q km : Nat) (H5 : Heap) (names : Kn) (ss : Value) (k : Nat) (st : St) : Prop := ∃ K, (∃ j : Nat → Value, st = ⟨[j 0, j 1, j 2, j 3, j 4, j 5, j 6, j 7, j 8, j 9, pt P.r, pt mb, pt q, j 13, j 14, j 15, j 16, j 17, j 18, j 19, j 20, j 21, j 22, j 23, j 24, j 25, j 26, j 27, j 28, j 29, j 30, j 31, j 32, j 33, j 34, j 35, j 36, j 37, j 38, j 39, j 40, j 41, j 42, j 43, j 44, j 45, j 46, j 47, j 48, j 49, j 50, j 51, j 52, j 53, j 54, j 55, j 56, j 57, j 58, j 59, j 60, j 61, j 62, j 63, j 64, j 65, j 66, j 67, j 68, j 69, j 70, j 71, j 72, j 73, j 74, j 75, j 76, j 77, j 78, j 79, j 80, j 81, j 82, j 83, j 84, j 85, j 86, j 87, j 88, j 89, j 90, j 91, j 92, j 93, j 94, j 95, j 96, j 97, j 98, j 99, j 100, j 101, j 102, j 103, j 104, j 105, j 106, j 107, j 108, j 109, j 110, j 111, j 112, j 113, j 114, j 115, j 116, j 117, j 118, j 119, j 120, j 121, j 122, j 123, j 124, j 125, j 126, j 127, j 128, j 129, j 130], K⟩) ∧ NmS P mb q km H5 K names k ss
theorem ycb {P : RP} {mb q km : Nat} {H5 K : Heap} {names : Kn} {k : Nat} {ss : Value} {d : Bys × Bool} {nn : Value} (hq : H5[q]? = some (.cells [pt P.r, .map (some km), .map none, nn] 0 false)) (hqm : q ≠ mb) (hqk : q ≠ km) (hmk : mb ≠ km) (hkn : k ≤ 10000) (hlm : mb < H5.length) (hlk : km < H5.length) (e : NmS P mb q km H5 K names k ss) (hd : names[k]? = some d) :
    Heap.read1 (K ++ [.cells (wq d) 0 false]) ⟨q, 1, some 0⟩ = some (.map (some km)) ∧
    ((∃ b, zo9 (K ++ [.cells (wq d) 0 false]) .str (.bool false) true (.map (some km)) (str d.1) = some (tup [.bool b, .bool true], K ++ [.cells (wq d) 0 false]) ∧ NmS P mb q km H5 (K ++ [.cells (wq d) 0 false]) names (k + 1) ss) ∨
     (∃ K1 x y z x' y' z' K2 K3, zo9 (K ++ [.cells (wq d) 0 false]) .str (.bool false) true (.map (some km)) (str d.1) = some (tup [.bool false, .bool false], K ++ [.cells (wq d) 0 false]) ∧ updO (K ++ [.cells (wq d) 0 false]) .str (.map (some km)) (str d.1) (.bool d.2) = some (undef, K1) ∧
      Heap.read1 K1 ⟨mb, 0, some 0⟩ = some (.slice x y z) ∧ Heap.read K1 ⟨K.length, 0, some 0⟩ 2 = some (wq d) ∧ kh (K1 ++ [.cells (wq d) 0 false]) 2 24 (.slice x y z) (zc9 (K1 ++ [.cells (wq d) 0 false]) 2 (.slice (some ⟨K1.length, 0, some 0⟩) 1 2)) = some (.slice x' y' z', K2) ∧ Heap.write1 K2 ⟨mb, 0, some 0⟩ (.slice x' y' z') = some K3 ∧ NmS P mb q km H5 K3 names (k + 1) ss)) := by
  obtain ⟨⟨kn, ks, x, y, z, rfl, hk, hm, own, hb, hkl, hle⟩, ⟨kp, kl⟩, cq⟩ := e
  rw [hq] at cq
  have lm := (List.getElem?_eq_some_iff.1 hm).1
  have lk := (List.getElem?_eq_some_iff.1 hk).1
  have lq := (List.getElem?_eq_some_iff.1 cq).1
  refine ⟨we (xa _ cq), ?_⟩
  have lo := zhw _ (xa [.cells (wq d) 0 false] hk) (.bool false) true (w := d.1) (ztj kn d.1)
  rw [zdf hd, b7] at hkl
  cases hl : ji kn d.1 with
  | some b =>
    rw [hl] at lo hkl
    simp only [Option.isSome_some, if_true] at hkl
    exact .inl ⟨b, lo, ⟨⟨kn, _, x, y, z, rfl, xa _ hk, xa _ hm, own.more _, hb, hkl, by omega⟩, ⟨fun b o ho n1 n2 => xa _ (kp b o ho n1 n2), by simp; omega⟩, by rw [xa _ cq, hq]⟩⟩
  | none =>
    rw [hl] at lo hkl
    simp only [Option.isSome_none, Bool.false_eq_true, if_false] at hkl
    right
    have hu := znj _ (xa [.cells (wq d) 0 false] hk) (zi3 hl d.2)
    obtain ⟨K1, hK1⟩ : ∃ K1, K1 = (K ++ [AObj.cells (wq d) 0 false]).set km (.map (knE (kn ++ [(d.1, d.2)]))) := ⟨_, rfl⟩
    rw [← hK1] at hu
    have l1 : K1.length = K.length + 1 := by rw [hK1]; simp
    have g1 : ∀ b o, b ≠ km → K[b]? = some o → K1[b]? = some o := fun b o n ho => by rw [hK1, List.getElem?_set_ne (Ne.symm n)]; exact xa _ ho
    have gr : K1[K.length]? = some (.cells (wq d) 0 false) := by rw [hK1, List.getElem?_set_ne (by omega)]; simp
    have own1 : Own [] K1 (.slice x y z) 2 (kn.map wq) := own.keep fun b hb' o ho => g1 b o (by have := hb b hb'; omega) ho
    obtain ⟨s', K2, p1, p2, p3, p4, p5, p6⟩ := own1.push (⟨_, rfl⟩ : Pre [] K1) (row := wq d) (bytes := 24) (zen d) (by rw [List.length_map]; unfold k8; omega)
    obtain ⟨x', y', z', rfl⟩ := p2.slice
    have nb : ∀ b, b < H5.length → blk (.slice x y z) ≠ some b := fun b hlt h => by have := hb b h; omega
    have hm2 : K2[mb]? = some (.cells [.slice x y z, ss] 0 false) := p5 _ _ (g1 _ _ hmk hm) (nb _ hlm)
    have lm2 := (List.getElem?_eq_some_iff.1 hm2).1
    have blk2 : ∀ b, blk (.slice x' y' z') = some b → H5.length ≤ b := fun b hb' => by
      rcases p6 with h | ⟨j, h, h'⟩
      · rw [h] at hb'; exact hb b hb'
      · rw [h] at hb'; cases hb'; omega
    have k3 : ∀ b o, b < H5.length → b ≠ mb → b ≠ km → K[b]? = some o → (K2.set mb (.cells [.slice x' y' z', ss] 0 false))[b]? = some o := fun b o hlt n1 n2 ho => by
      rw [List.getElem?_set_ne (Ne.symm n1)]; exact p5 b o (g1 b o n2 ho) (nb b hlt)
    refine ⟨K1, x, y, z, x', y', z', K2, K2.set mb (.cells [.slice x' y' z', ss] 0 false), lo, hu, we (g1 _ _ hmk hm), zj8 gr (zen d), p1, by rw [ph hm2 (by simp)]; rfl, ⟨⟨kn ++ [d], _, x', y', z', rfl, ?_, by rw [List.getElem?_set_self lm2], ?_, blk2, hkl, by simp; omega⟩, ⟨fun b o ho n1 n2 => ?_, by rw [List.length_set]; omega⟩, ?_⟩⟩
    · rw [List.getElem?_set_ne hmk]
      exact p5 _ _ (by rw [hK1, List.getElem?_set_self (by simp; omega)]) (nb _ hlk)
    · rw [List.map_append]
      exact p2.keep fun b hb' o ho => by rw [List.getElem?_set_ne (by have := blk2 b hb'; omega)]; exact ho
    · have hlt := (List.getElem?_eq_some_iff.1 ho).1
      exact k3 b o hlt n1 n2 (kp b o ho n1 n2)
    · rw [hq]; exact k3 q _ (List.getElem?_eq_some_iff.1 hq).1 hqm hqk cq
theorem ygz (P : RP) (kn : Kn) : ∀ st, yes P kn st
  | .lets rc gs => zyj P kn rc gs
  | .chk k x as_ => ybe P kn k x as_
theorem ycd {kn : Kn} {n : Nat} {s s' : Stm} (h : chkS kn n s = .ok s') (hn : n ≤ 64) : n + s'.given.length ≤ 64 ∧ ∀ rc gs', s' = .lets rc gs' → ∃ gs, s = .lets rc gs ∧ gs.length = gs'.length := by
  cases s with
  | lets rc gs =>
    rw [chkS] at h
    split at h
    · cases h
    · rename_i u hf
      split at h
      · cases h
      · rename_i l hl
        cases h
        have hlen : l.length = gs.length := by have := congrArg List.length (zg8 hl); simpa using this
        refine ⟨?_, fun rc' gs' hs => by cases hs; exact ⟨gs, rfl, hlen.symm⟩⟩
        simp only [Stm.given, j8, List.length_map, hlen]
        rcases zqm hf with h | rfl
        · omega
        · simpa using hn
  | chk k x as_ =>
    rw [chkS] at h
    split at h
    · cases h
    · split at h
      · cases h
      · cases h; exact ⟨by simpa [Stm.given] using hn, fun _ _ hs => by cases hs⟩
structure LsS (P : RP) (mb q km i : Nat) (H6 K : Heap) (R0 : CR (List Stm)) (stms : List Stm) (T : Nat → Prop) (rows : List (List Value)) (k x a : Nat) : Prop where
  rd : Rd P K i 0 x a
  ex : (x = 0 → a = 0 ∧ ∃ (kn : Kn) (n : Nat) (rm : Value) (l' : List Stm), K[q]? = some (.cells [pt P.r, .map (some km), rm, .int .i64 (n : Int)] 0 false) ∧ K[km]? = some (.map (knE kn)) ∧ StsP K T rows l' ∧ n ≤ 64 ∧ ∃ done, done.length = k ∧ l' = done ++ stms.drop k ∧ (∀ rc gs, Stm.lets rc gs ∈ done → gs.length ≤ 8192) ∧ R0 = (match chkM kn n (stms.drop k) with | .bad c a => .bad c a | .ok l => .ok (done ++ l))) ∧ (x ≠ 0 → R0 = .bad x a)
  kp : (∀ (b : Nat) (o : AObj), H6[b]? = some o → ¬ T b → b ≠ q → b ≠ km → b ≠ P.r → K[b]? = some o) ∧ H6.length ≤ K.length
def LsI (P : RP) (mb q km i : Nat) (H6 : Heap) (R0 : CR (List Stm)) (stms : List Stm) (T : Nat → Prop) (rows : List (List Value)) (ss : Value) (k : Nat) (st : St) : Prop := ∃ K x a, (∃ j : Nat → Value, st = ⟨[j 0, j 1, j 2, j 3, j 4, j 5, j 6, j 7, j 8, j 9, pt P.r, pt mb, pt q, j 13, j 14, j 15, j 16, j 17, j 18, j 19, j 20, j 21, j 22, j 23, j 24, j 25, j 26, j 27, j 28, j 29, j 30, j 31, j 32, j 33, j 34, j 35, j 36, j 37, j 38, j 39, j 40, j 41, j 42, j 43, j 44, j 45, j 46, j 47, j 48, j 49, j 50, j 51, j 52, j 53, j 54, j 55, j 56, j 57, j 58, j 59, j 60, j 61, j 62, j 63, j 64, j 65, j 66, j 67, j 68, j 69, j 70, j 71, j 72, j 73, j 74, j 75, j 76, j 77, j 78, j 79, j 80, j 81, j 82, j 83, j 84, j 85, j 86, j 87, j 88, j 89, j 90, j 91, j 92, j 93, j 94, j 95, j 96, j 97, j 98, j 99, j 100, j 101, j 102, j 103, j 104, j 105, ss, .int .i64 (rows.length : Int), .int .i64 (k : Int), j 109, j 110, j 111, j 112, j 113, j 114, j 115, j 116, j 117, j 118, j 119, j 120, j 121, j 122, j 123, j 124, j 125, j 126, j 127, j 128, j 129, j 130], K⟩) ∧ LsS P mb q km i H6 K R0 stms T rows k x a
def LsO (P : RP) (mb q km i : Nat) (H6 : Heap) (R0 : CR (List Stm)) (stms : List Stm) (T : Nat → Prop) (rows : List (List Value)) (ss : Value) (st : St) : Prop := ∃ K x a k, (∃ j : Nat → Value, st = ⟨[j 0, j 1, j 2, j 3, j 4, j 5, j 6, j 7, j 8, j 9, pt P.r, pt mb, j 12, j 13, j 14, j 15, j 16, j 17, j 18, j 19, j 20, j 21, j 22, j 23, j 24, j 25, j 26, j 27, j 28, j 29, j 30, j 31, j 32, j 33, j 34, j 35, j 36, j 37, j 38, j 39, j 40, j 41, j 42, j 43, j 44, j 45, j 46, j 47, j 48, j 49, j 50, j 51, j 52, j 53, j 54, j 55, j 56, j 57, j 58, j 59, j 60, j 61, j 62, j 63, j 64, j 65, j 66, j 67, j 68, j 69, j 70, j 71, j 72, j 73, j 74, j 75, j 76, j 77, j 78, j 79, j 80, j 81, j 82, j 83, j 84, j 85, j 86, j 87, j 88, j 89, j 90, j 91, j 92, j 93, j 94, j 95, j 96, j 97, j 98, j 99, j 100, j 101, j 102, j 103, j 104, j 105, j 106, j 107, j 108, j 109, j 110, j 111, j 112, j 113, j 114, j 115, j 116, j 117, j 118, j 119, j 120, j 121, j 122, j 123, j 124, j 125, j 126, j 127, j 128, j 129, j 130], K⟩) ∧ LsS P mb q km i H6 K R0 stms T rows k x a ∧ (x = 0 → k = rows.length)
theorem ybi {P : RP} {mb q km i i0 k : Nat} {hb H6 K : Heap} {R0 : CR (List Stm)} {stms : List Stm} {T : Nat → Prop} {rows : List (List Value)} {s : Stm} (eb : Rd P hb i0 0 0 0) (hqb : hb.length ≤ q) (hkb : hb.length ≤ km) (hql : q < H6.length) (hkl : km < H6.length) (hT : ∀ z, T z → hb.length ≤ z ∧ z ≠ q ∧ z ≠ km ∧ z < H6.length) (hgs : ∀ rc gs, Stm.lets rc gs ∈ stms → gs.length ≤ 8192) (e : LsS P mb q km i H6 K R0 stms T rows k 0 0) (hs : stms[k]? = some s) :
    ∃ row K', rows[k]? = some row ∧ DF FF kb [pt q, agg row] (K ++ [.cells row 0 false]) = some (tup [], K') ∧ ∃ x a, LsS P mb q km i H6 K' R0 stms T rows (k + 1) x a := by
  obtain ⟨rd, ⟨f1, f2⟩, kp, kl⟩ := e
  obtain ⟨_, kn, n, rm, l', cq, ck, st, hn, done, hdl, hl', hdg, hR⟩ := f1 rfl
  have hlk : l'[k]? = some s := by rw [hl', List.getElem?_append_right (by omega), hdl, Nat.sub_self, List.getElem?_drop, Nat.add_zero]; exact hs
  obtain ⟨row, Tk, hrow, sp, hTk, back⟩ := st.focus hlk
  have L := [AObj.cells row 0 false]
  have nq : q ≠ P.r := by have := eb.lr; omega
  have nk : km ≠ P.r := by have := eb.lr; omega
  have smem : s ∈ stms := List.mem_of_getElem? hs
  obtain ⟨K', q', r', k'⟩ := ygz P kn s hb (K ++ [.cells row 0 false]) i0 i q km n rm Tk row eb (rd.more _) (xa _ cq) (xa _ ck) (sp.keep fun b o _ ho => xa _ ho) (fun z hz => by
    have := hT z (hTk z hz); exact ⟨this.1, this.2.1, this.2.2.1, by simp; omega⟩) hqb hkb (by omega) (fun rc gs hs' => hgs rc gs (hs' ▸ smem))
  have keep : ∀ b o, K[b]? = some o → ¬ Tk b → b ≠ q → b ≠ km → b ≠ P.r → K'[b]? = some o := fun b o ho n1 n2 n3 n4 => k'.1 b o (xa _ ho) (fun h => h.elim n1 fun h => h.elim n2 n3) n4
  have kp' : (∀ (b : Nat) (o : AObj), H6[b]? = some o → ¬ T b → b ≠ q → b ≠ km → b ≠ P.r → K'[b]? = some o) ∧ H6.length ≤ K'.length :=
    ⟨fun b o ho n1 n2 n3 n4 => keep b o (kp b o ho n1 n2 n3 n4) (fun h => n1 (hTk b h)) n2 n3 n4, by have := k'.2; simp at this; omega⟩
  have hR2 : R0 = (match chkS kn n s with | .bad c a => CR.bad c a | .ok s' => (match chkM (kn ++ s'.given) (n + s'.given.length) (stms.drop (k + 1)) with | .bad c a => .bad c a | .ok l => .ok (done ++ (s' :: l)))) := by
    rw [hR, zdf hs, chkM]
    cases chkS kn n s with
    | bad c a => rfl
    | ok s' => simp only; cases chkM (kn ++ s'.given) (n + s'.given.length) (stms.drop (k + 1)) <;> rfl
  have others : ∀ b o, T b → ¬ Tk b → K[b]? = some o → K'[b]? = some o := fun b o h1 h2 ho => by
    have := hT b h1; have := eb.lr
    exact keep b o ho h2 (by omega) (by omega) (by omega)
  refine ⟨row, K', hrow, q', ?_⟩
  cases hc : chkS kn n s with
  | bad c a =>
    rw [hc] at r' hR2
    obtain ⟨hc0, e'⟩ := r'
    exact ⟨c, a, e', ⟨fun h => absurd h hc0, fun _ => hR2⟩, kp'⟩
  | ok s' =>
    rw [hc] at r' hR2
    obtain ⟨sp', e', ⟨rm', cq'⟩, ck'⟩ := r'
    obtain ⟨h64, hlen⟩ := ycd hc hn
    refine ⟨0, 0, e', ⟨fun _ => ⟨rfl, kn ++ s'.given, n + s'.given.length, rm', l'.set k s', cq', ck', back K' s' sp' others, h64, done ++ [s'], by simp [hdl], ?_, ?_, ?_⟩, fun h => absurd rfl h⟩, kp'⟩
    · rw [hl', List.set_append_right _ _ (by omega), hdl, Nat.sub_self, zdf hs]; simp
    · intro rc gs hm
      rcases List.mem_append.1 hm with hm | hm
      · exact hdg rc gs hm
      · simp at hm
        obtain ⟨gs0, h1, h2⟩ := hlen rc gs hm.symm
        have := hgs rc gs0 (h1 ▸ smem)
        omega
    · rw [hR2]
      simp only
      cases chkM (kn ++ s'.given) (n + s'.given.length) (stms.drop (k + 1)) <;> simp
/-- A model in memory, its objects among U. -/
structure ModP (K : Heap) (U : Nat → Prop) (mb : Nat) (md : Md) : Prop where
  ex : ∃ ks ss rows T, K[mb]? = some (.cells [ks, ss] 0 false) ∧ Sl K ks 2 (md.known.map wq) ∧ Sl K ss 4 rows ∧ StsP K T rows md.l ∧ (∀ z, T z → U z) ∧ (∀ b, blk ks = some b → U b) ∧ ∀ b, blk ss = some b → U b
  mb : U mb
  len : md.l.length ≤ 8193 ∧ md.known.length ≤ 10000 ∧ ∀ rc gs, Stm.lets rc gs ∈ md.l → gs.length ≤ 8192
theorem ModP.keep {K K' : Heap} {U : Nat → Prop} {mb : Nat} {md : Md} (e : ModP K U mb md) (k : ∀ b o, U b → K[b]? = some o → K'[b]? = some o) : ModP K' U mb md := by
  obtain ⟨⟨ks, ss, rows, T, h1, h2, h3, h4, h5, h6, h7⟩, hm, hl⟩ := e
  exact ⟨⟨ks, ss, rows, T, k _ _ hm h1, h2.keep fun b hb o ho => k b o (h6 b hb) ho, h3.keep fun b hb o ho => k b o (h7 b hb) ho, h4.keep fun b o hb ho => k b o (h5 b hb) ho, h5, h6, h7⟩, hm, hl⟩
def chkR (kn : Kn) : PR (List Stm) → CR (List Stm)
  | .bad c a => .bad c a
  | .ok acc _ => chkM kn 0 acc
def mdR (kn : Kn) : CR (List Stm) → CR Md
  | .bad c a => .bad c a
  | .ok l => .ok ⟨kn, l⟩
theorem zyq {l : List UInt8} {names : Kn} {m : List Tok} (hl : ¬ 4096 < l.length) (hs : fi l 0 = .ok m) : zaj l names = mdR (b7 [] names) (chkR (b7 [] names) (znx l.length m)) := by
  unfold zaj
  rw [if_neg hl, hs]
  simp only
  cases znx l.length m with
  | bad c a => rfl
  | ok acc r => simp only [chkR]; cases chkM (b7 [] names) 0 acc <;> rfl
def ModR (h h' : Heap) (v : Value) : CR Md → Prop
  | .bad c a => v = tup [nilP, .int .i64 (c : Int), .int .i64 (a : Int)] ∧ h' = h ∧ c ≠ 0
  | .ok md => ∃ mb, v = tup [pt mb, .int .i64 0, .int .i64 0] ∧ ModP h' (fun z => h.length ≤ z ∧ z < h'.length) mb md
theorem zt4 {h K : Heap} (p : Pre h K) (c a : Nat) (hc : c ≠ 0) : ModR h (AM.finish h (tup [nilP, .int .i64 (c : Int), .int .i64 (a : Int)]) K) (tup [nilP, .int .i64 (c : Int), .int .i64 (a : Int)]) (.bad c a) ∧ Pre h (AM.finish h (tup [nilP, .int .i64 (c : Int), .int .i64 (a : Int)]) K) := by
  obtain ⟨L, rfl⟩ := p
  rw [fv h L rfl]
  exact ⟨⟨rfl, rfl, hc⟩, Pre.refl h⟩
theorem znt : ∀ (ns kn : Kn), (b7 kn ns).length ≤ kn.length + ns.length
  | [], kn => by simp [b7]
  | d :: r, kn => by
    rw [b7]
    have := znt r (if (ji kn d.1).isSome then kn else kn ++ [d])
    split at this
    · rename_i h; rw [if_pos h]; simp only [List.length_cons]; omega
    · rename_i h; rw [if_neg h]; simp only [List.length_cons, List.length_append, List.length_nil] at *; omega
set_option maxHeartbeats 16000000 in
theorem zhn (l : List UInt8) (names : Kn) (ns : Value) {h : Heap} (g : Gl h) (hns : Sl h ns 2 (names.map wq)) (hnl : names.length ≤ 10000) : ∃ v h', DF FF fd [str l, ns] h = some (v, h') ∧ (ModR h h' v (zaj l names) ∧ Pre h h') := by
  refine wz ztv ?_
  by_cases hl : 4096 < l.length
  · have c1 : ((4096 : Int) < (l.length : Int)) = True := by simp; omega
    have hR : zaj l names = .bad 2 0 := by unfold zaj; rw [if_pos hl]
    simp only [ze9, z7, zr, xe, zb, zw, z8, zn, zc, zo, zf, ze, zd, List.set_cons_succ, List.set_cons_zero, O_mv, yu, yg, zab, List.cons_append, List.nil_append, List.length_cons, List.length_nil, Nat.reduceAdd, Nat.reduceSub, Nat.zero_add, zm, yb, za, y5, zh, zg, wt, zaw, yi, xp, ym, decide_true, ym, c1, zaw]
    rw [hR]
    exact ⟨⟨rfl, rfl, by omega⟩, Pre.refl h⟩
  have c1 : ((4096 : Int) < (l.length : Int)) = False := by simp; omega
  obtain ⟨v1, H1, t1, t2, t3⟩ := zo8 l g
  have htv : zjg l = fi l 0 := by unfold zjg; rw [if_neg (by omega)]
  rw [htv] at t2
  cases hsc : fi l 0 with
  | bad c a =>
    rw [hsc] at t2
    have t2 : v1 = tup [.slice none 0 0, .int .i64 (c : Int), .int .i64 (a : Int)] := t2
    subst t2
    have hc := zvj hsc
    have c2 : ((c : Int) != 0) = true := by rw [bne_iff_ne]; omega
    have hR : zaj l names = .bad c a := by unfold zaj; rw [if_neg hl, hsc]
    simp only [ze9, z7, zr, xe, yl, zb, zw, zu, z8, zn, zc, zo, zf, ze, zd, List.set_cons_succ, List.set_cons_zero, O_mv, yu, yg, yf, List.map_cons, List.map_nil, zit, zab, List.cons_append, List.nil_append, List.length_cons, List.length_nil, Nat.reduceAdd, Nat.reduceSub, Nat.zero_add, zm, yb, za, y5, xg, y7, zh, zg, List.getElem?_cons_zero, List.getElem?_cons_succ, zaw, yi, xp, ym, decide_false, ym, c1, t1, c2, zaw]
    rw [hR]
    exact zt4 t3 c a hc
  | ok m =>
    rw [hsc] at t2
    obtain ⟨s, rfl, own1⟩ := t2
    obtain ⟨hok, hml⟩ := ya7 hsc
    have c2 : ((0 : Int) != 0) = false := rfl
    obtain ⟨s', c, H2, n1, n2, n3, n4, n5, n6⟩ := yhd own1.sl (by rw [List.length_map]; omega)
    have p12 := t3.trans n6
    obtain ⟨sx, sy, sz, rfl⟩ := own1.slice
    have lc2 := (List.getElem?_eq_some_iff.1 n2).1
    obtain ⟨P, hP⟩ : ∃ P : RP, P = { r := H2.length, c := c, en := l.length, ws := .slice sx sy sz, cs := s', L := m, ne := by omega, wr := fun h => by have := (own1.lt h).2; have := n6.le; omega, wc := fun h => by have := (own1.lt h).2; omega, cr := fun h => by have := (n3.lt h).2; omega, cc := n4, ok := hok, len := by omega } := ⟨_, rfl⟩
    have pr : P.r = H2.length := by rw [hP]
    have pc : P.c = c := by rw [hP]
    have pe : P.en = l.length := by rw [hP]
    have pw : P.ws = .slice sx sy sz := by rw [hP]
    have pcs : P.cs = s' := by rw [hP]
    have pL : P.L = m := by rw [hP]
    obtain ⟨H4, hH4⟩ : ∃ H4, H4 = H2 ++ [AObj.cells [pt c, .slice sx sy sz, .int .i64 (l.length : Int), .int .i64 0, .int .i64 0, .int .i64 0] 0 false, .cells [.slice none 0 0, .slice none 0 0] 0 false] := ⟨_, rfl⟩
    obtain ⟨mb, hmb⟩ : ∃ mb, mb = H2.length + 1 := ⟨_, rfl⟩
    have l4 : H4.length = mb + 1 := by rw [hH4, hmb]; simp
    have p4 : Pre h H4 := by rw [hH4]; exact p12.more _
    have e4 : Rd P H4 0 0 0 0 := by
      rw [hH4]
      refine ⟨by rw [pr, pc, pw, pe]; simp, by rw [pc, pcs]; exact xa _ n2, by rw [pw, pL]; exact (own1.sl.pre n6).more _, by rw [pcs, pL]; exact n3.sl.more _, Nat.zero_le _⟩
    have hm4 : H4[mb]? = some (.cells [nils, nils] 0 false) := by rw [hH4, hmb]; simp [nils]
    have hmr : mb ≠ P.r := by omega
    have hmc : mb ≠ P.c := by omega
    have hwm : blk P.ws ≠ some mb := fun h => by rw [pw] at h; have := (own1.lt h).2; have := n6.le; omega
    have hcm : blk P.cs ≠ some mb := fun h => by rw [pcs] at h; have := (n3.lt h).2; omega
    obtain ⟨R, hRd⟩ : ∃ R, R = znx l.length m := ⟨_, rfl⟩
    have hlens : ∀ K, lenO K ns = some (.int .i64 (names.length : Int), K) := fun K => by rw [hns.len, List.length_map]
    have toPre : ∀ K, M3 P mb H4 K → Pre h K := fun K k => Pre.of (by have := p4.le; have := k.le; omega) fun b o ho => by
      have hlt := (List.getElem?_eq_some_iff.1 ho).1
      have h1 := p12.le; have h2 := t3.le
      exact k.keep b o (by rw [p4.get hlt]; exact ho) (by omega) (by omega) (by omega)
    have s0 : PaS P mb H4 R (P.L.length - 0 + 1) H4 := .inl ⟨0, nils, fun _ => False, [], [], rfl, e4, hm4, Own.nil _ _ _, trivial, fun z hz => hz.elim, (fun b hb => by simp [blk, nils] at hb), M3.refl _ _ _, Nat.zero_le _, (by simp), by
      rw [hRd, ← pe, ← pL, List.drop_zero]; unfold znx; cases kf P.en P.L.length P.L <;> rfl⟩
    have hf1 : w4 [.pointer none, .slice none 0 0, .int .i64 0, .int .i64 0, .int .i64 0, .int .i64 0] [(0, 1, pt c), (1, 1, .slice sx sy sz), (2, 1, .int .i64 (l.length : Int))] = some [pt c, .slice sx sy sz, .int .i64 (l.length : Int), .int .i64 0, .int .i64 0, .int .i64 0] := by
      rw [f6 _ (by simp), zne _ (by simp), wu _ (by simp), yz]; rfl
    simp only [ze9, z7, zr, yl, zb, zu, z8, zn, zc, zo, zf, ze, zd, List.set_cons_succ, List.set_cons_zero, O_mv, yu, yg, yf, List.map_cons, List.map_nil, wg, y9, yc, yd, yz, zit, zab, List.cons_append, List.nil_append, List.length_cons, List.length_nil, Nat.reduceAdd, Nat.reduceSub, Nat.zero_add, zm, yb, zx, za, w8, xg, y7, zh, zg, List.append_assoc, List.length_append, List.getElem?_cons_zero, List.getElem?_cons_succ, eq_self, yh, zt, yi, xp, ym, decide_false, ym, c1, t1, c2, n1, hf1, yh, zt, ← hH4]
    rw [show H2.length + 1 = mb from hmb.symm, ← pr]
    refine zt0 0 (PaI P mb H4 ns R) (PaO P mb H4 ns R) ?_ (P.L.length - 0 + 1) _ ⟨H4, junk rfl, s0⟩ ?_
    · rintro k0 st ⟨K, ⟨j, rfl⟩, ⟨k, ss, T, acc, rows, rfl, eK, hm, own, stp, hT, hb, m4, hacc, hgs, hR⟩ | ⟨k, ec, ea, x, y, z, rows, rfl, eK, hc0, hR, hm, m4, own, hb, hrl⟩⟩
      · by_cases hk : k < P.L.length
        · obtain ⟨row, K1, x, y, z, K2, hr4, q1, rd1, ap, w1, m', hlt, pas⟩ := ya6 e4 l4 hmr hmc hwm hcm hk eK hm own stp hT hb m4 hacc hgs hR
          have c3 : ((0 : Int) < ((P.L.length - k : Nat) : Int)) = True := by simp; omega
          have rm0 : Heap.read1 K ⟨mb, 1, some 0⟩ = some ss := we hm
          obtain ⟨ax, ay, az, rfl⟩ := own.slice
          have a1 : zb2 K1 (.pointer (some ⟨mb, 1, some 0⟩)) (.slice ax ay az) = some (undef, K1) := b6 rd1 rfl
          simp only [z7, zr, yl, zb, zw, z8, zn, ye, zc, zp, xl, zo, zf, ze, zd, List.set_cons_succ, List.set_cons_zero, O_mv, yw, xf, yu, yg, yf, List.map_cons, List.map_nil, zz, zk, ww, wd, yc, yd, xb, xi, zab, List.length_cons, List.length_nil, Nat.reduceAdd, Nat.zero_add, zm, yb, zx, za, zi, vq, slc, qv, xc, z6, zl, xd, fq, zq, zj, List.append_nil, Nat.add_zero, List.getElem?_cons_zero, zdb, decide_true, ok_0 eK, eK.r0, zg3 eK, c3, rm0, q1, a1, zxn _ _ _ _ hr4, ap, w1]
          exact ⟨m', hlt, _, junk rfl, pas⟩
        · have c3 : ((0 : Int) < ((P.L.length - k : Nat) : Int)) = False := by simp; omega
          simp only [z7, zr, w6, zb, zu, z8, zn, ye, zc, xl, zo, zf, ze, zd, List.set_cons_succ, List.set_cons_zero, O_mv, yw, xf, yu, yg, yf, List.map_cons, List.map_nil, zz, zk, zab, zm, yb, za, yx, zag, xc, z6, zq, zj, Nat.add_zero, List.getElem?_cons_zero, gj, decide_false, ok_0 eK, eK.r0, zg3 eK, c3, gj]
          have hk' : k = P.L.length := by have := eK.le; omega
          rw [List.drop_eq_nil_of_le (by omega)] at hR
          have hR' : R = .ok acc [] := by
            cases hq : P.L.length with
            | zero => rw [hq] at hR; simpa [kf] using hR
            | succ q => rw [hq] at hR; simpa [kf] using hR
          exact ⟨K, junk rfl, k, 0, 0, ss, rows, ⟨eK, hm, own, hb, m4, by rw [(stp.len).1]; have := P.len; omega, fun _ => ⟨rfl, T, acc, hR', stp, hT, hgs, by have := P.len; omega⟩, fun h => absurd rfl h⟩⟩
      · simp only [z7, zr, w6, zb, zu, z8, zn, ye, zc, w5, zo, zf, ze, zd, List.set_cons_succ, List.set_cons_zero, O_mv, yw, xf, yf, List.map_cons, List.map_nil, zm, yb, za, yx, zag, gj, fh eK hc0, gj]
        exact ⟨K, junk rfl, k, ec, ea, .slice x y z, rows, ⟨eK, hm, own, hb, m4, hrl, fun h => absurd h hc0, fun _ => hR⟩⟩
    rintro st ⟨K, ⟨j, rfl⟩, k, x, a, ss, rows, E⟩
    have lK := E.m3.le
    obtain ⟨ax, ay, az, rfl⟩ := E.own.slice
    obtain ⟨K5, hK5⟩ : ∃ K5, K5 = K ++ [AObj.map [], .cells [pt P.r, .map (some K.length), .map none, .int .i64 0] 0 false] := ⟨_, rfl⟩
    have l5 : K5.length = K.length + 2 := by rw [hK5]; simp
    have hq5 : K5[K.length + 1]? = some (.cells [pt P.r, .map (some K.length), .map none, .int .i64 ((0 : Nat) : Int)] 0 false) := by rw [hK5]; simp
    have hk5 : K5[K.length]? = some (.map (knE [])) := by rw [hK5]; simp [knE]
    have hm5 : K5[mb]? = some (.cells [nils, .slice ax ay az] 0 false) := by rw [hK5]; exact xa _ E.mo
    have hmK := (List.getElem?_eq_some_iff.1 E.mo).1
    have hf2 : w4 [.pointer none, .map none, .map none, .int .i64 0] [(0, 1, pt P.r), (1, 1, .map (some K.length))] = some [pt P.r, .map (some K.length), .map none, .int .i64 0] := by
      rw [f6 _ (by simp), zuf _ (by simp), yz]; rfl
    have pK := toPre K E.m3
    have p5 : Pre h K5 := by rw [hK5]; exact pK.more _
    have lm3 : h.length ≤ H2.length := p12.le
    have pN : ∀ K6 k6, NmS P mb (K.length + 1) K.length K5 K6 names k6 (.slice ax ay az) → Pre h K6 := fun K6 k6 e => Pre.of (by have := p5.le; have := e.kp.2; omega) fun b o ho => by
      have hlt := (List.getElem?_eq_some_iff.1 ho).1
      exact e.kp.1 b o (by rw [p5.get hlt]; exact ho) (by omega) (by have := pK.le; omega)
    simp only [z7, zb, z8, zn, zc, zo, zf, ze, zd, List.set_cons_succ, List.set_cons_zero, O_mv, j7, wg, y9, yc, yd, List.cons_append, List.nil_append, List.length_cons, List.length_nil, Nat.reduceAdd, Nat.zero_add, zm, yb, zx, za, yj, w8, List.append_assoc, List.length_append, eq_self, yh, zt, yj, hf2, ze6, yh, zt, ← hK5, hlens]
    refine bk 2 names.length (NmI P mb (K.length + 1) K.length K5 names ns (.slice ax ay az)) (NmO P mb (K.length + 1) K.length K5 names (.slice ax ay az) names.length) ?_ ?_ _ ⟨K5, junk rfl, ⟨⟨[], nils, _, _, _, rfl, hk5, hm5, Own.nil _ _ _, fun b hb => by simp [blk, nils] at hb, by simp, Nat.le_refl _⟩, ⟨fun b o ho _ _ => ho, Nat.le_refl _⟩, rfl⟩⟩ ?_
    · rintro n st hn ⟨K6, ⟨j, rfl⟩, e⟩
      have hd : names[n]? = some names[n] := List.getElem?_eq_getElem hn
      obtain ⟨b', o, v, a1, a2⟩ := (hns.pre (pN K6 n e)).atH (k := n) (by simpa using hn)
      rw [List.getElem_map] at a2
      have h1 : ((n : Int) < (names.length : Int)) = True := by simp; omega
      obtain ⟨rq, cases_⟩ := ycb hq5 (by omega) (by omega) (by omega) (by omega) (by omega) (by omega) e hd
      rcases cases_ with ⟨b, lo, e'⟩ | ⟨J1, x, y, z, x', y', z', J2, J3, lo, hu, r1, r2, ap, w1, e'⟩
      · simp only [z7, zr, yl, zb, zw, zu, z8, zn, zc, zp, zo, zf, ze, zd, List.set_cons_succ, List.set_cons_zero, O_mv, yu, yg, O_un, vh, zz, zk, x7, y8, vj, xy, vp, List.length_cons, List.length_nil, Nat.reduceAdd, Nat.zero_add, Bool.not_true, zm, yb, zx, za, zi, y0, xc, z6, xg, y7, zl, y4, ya, zq, zj, yy, yq, yk, zy, zs, Nat.add_zero, Option.map_some, List.getElem?_cons_zero, List.getElem?_cons_succ, eq_self, yp, Option.map_some, decide_true, h1, a1, a2, zen, zq7, rq, fc, lo, xm (k := n) (by omega)]
        exact ⟨_, junk rfl, e'⟩
      · simp only [z7, zr, yl, zb, zw, z8, zn, zc, zp, zo, zf, ze, zd, List.set_cons_succ, List.set_cons_zero, O_mv, yu, yg, O_un, vh, zz, zk, x7, y8, ww, wd, yc, yd, xb, xi, vj, xy, vp, List.length_cons, List.length_nil, Nat.reduceAdd, Nat.zero_add, Bool.not_false, zm, yb, zx, za, zi, slc, qv, y0, xc, z6, xg, y7, zl, xd, fq, y4, ya, zq, zj, yy, yq, yk, zy, zs, List.append_nil, Nat.add_zero, Option.map_some, List.getElem?_cons_zero, List.getElem?_cons_succ, eq_self, yp, Option.map_some, decide_true, h1, a1, a2, zen, zq7, yaa, rq, fc, fy, lo, hu, r1, r2, zyc, ap, w1, xm (k := n) (by omega)]
        exact ⟨_, junk rfl, e'⟩
    · rintro st ⟨K6, ⟨j, rfl⟩, e⟩
      have h1 : ((names.length : Int) < (names.length : Int)) = False := by simp
      simp only [z7, zr, w6, zb, zu, z8, zn, zc, zo, ze, zd, List.set_cons_succ, List.set_cons_zero, yu, yg, xy, zm, yb, za, yx, gj, xj, decide_false, h1, gj]
      exact ⟨K6, junk rfl, e⟩
    rintro st ⟨K6, ⟨j, rfl⟩, e6⟩
    have p6 := pN K6 _ e6
    obtain ⟨⟨kn, ks, kx, ky, kz, rfl, hk6, hm6, own6, hb6, hkn6, hkl6⟩, ⟨kp6, kl6⟩, cq6⟩ := e6
    rw [hq5] at cq6
    rw [List.drop_length, b7] at hkn6
    subst hkn6
    have g6 : ∀ b o, K[b]? = some o → b ≠ mb → K6[b]? = some o := fun b o ho n1 => by
      have hlt := (List.getElem?_eq_some_iff.1 ho).1
      exact kp6 b o (by rw [hK5]; exact xa _ ho) n1 (by omega)
    have rd6 : Rd P K6 k 0 x a := ⟨g6 _ _ E.rd.hr (Ne.symm hmr), g6 _ _ E.rd.hc (Ne.symm hmc), E.rd.sw.keep fun b hb o ho => g6 b o ho (by rintro rfl; exact hwm hb), E.rd.sc.keep fun b hb o ho => g6 b o ho (by rintro rfl; exact hcm hb), E.rd.le⟩
    have ownS : Own [] K6 (.slice ax ay az) 4 rows := E.own.keep fun b hb o ho => g6 b o ho (by have := E.lo b hb; omega)
    obtain ⟨T, stms, hx0, hTb⟩ : ∃ (T : Nat → Prop) (stms : List Stm), (x = 0 → a = 0 ∧ R = .ok stms [] ∧ StsP K6 T rows stms ∧ (∀ rc gs, Stm.lets rc gs ∈ stms → gs.length ≤ 8192) ∧ stms.length ≤ 8192) ∧ ((∀ z, T z → mb < z ∧ z < K.length ∧ blk (.slice ax ay az) ≠ some z) ∧ ∀ rc gs, Stm.lets rc gs ∈ stms → gs.length ≤ 8192) := by
      by_cases x0 : x = 0
      · obtain ⟨a0, T, acc, hR, st, hT, hg, hl⟩ := E.ok x0
        exact ⟨T, acc, fun _ => ⟨a0, hR, st.keep fun b o hb ho => g6 b o ho (by have := hT b hb; omega), hg, hl⟩, hT, hg⟩
      · exact ⟨fun _ => False, [], fun h => absurd h x0, fun z hz => hz.elim, by simp⟩
    obtain ⟨hT, hgs⟩ := hTb
    obtain ⟨R0, hR0⟩ : ∃ R0 : CR (List Stm), R0 = chkR (b7 [] names) R := ⟨_, rfl⟩
    have hPM : zaj l names = mdR (b7 [] names) R0 := by rw [zyq hl hsc, ← hRd, hR0]
    have hlS : ∀ J, lenO J (.slice ax ay az) = some (.int .i64 (rows.length : Int), J) := fun J => ownS.len J
    have rm6 : Heap.read1 K6 ⟨mb, 1, some 0⟩ = some (.slice ax ay az) := we hm6
    have L0 : LsS P mb (K.length + 1) K.length k K6 K6 R0 stms T rows 0 x a := ⟨rd6, ⟨fun x0 => by
      obtain ⟨a0, hR, st, hg, hl⟩ := hx0 x0
      exact ⟨a0, b7 [] names, 0, .map none, stms, cq6, hk6, st, by omega, [], rfl, by simp, by simp, by rw [hR0, hR, List.drop_zero, chkR]; cases chkM (b7 [] names) 0 stms <;> rfl⟩, fun x0 => by rw [hR0, E.bad x0]; rfl⟩, fun b o ho _ _ _ _ => ho, Nat.le_refl _⟩
    have moreL : ∀ J L k' x' a', LsS P mb (K.length + 1) K.length k K6 J R0 stms T rows k' x' a' → LsS P mb (K.length + 1) K.length k K6 (J ++ L) R0 stms T rows k' x' a' := fun J L k' x' a' e =>
      ⟨e.rd.more _, ⟨fun x0 => by
        obtain ⟨a0, kn, n, rm, l', c1, c2, c3, c4⟩ := e.ex.1 x0
        exact ⟨a0, kn, n, rm, l', xa _ c1, xa _ c2, c3.keep fun b o _ ho => xa _ ho, c4⟩, e.ex.2⟩, fun b o ho n1 n2 n3 n4 => xa _ (e.kp.1 b o ho n1 n2 n3 n4), by have := e.kp.2; simp; omega⟩
    have keepS : ∀ J k' x' a', LsS P mb (K.length + 1) K.length k K6 J R0 stms T rows k' x' a' → Sl J (.slice ax ay az) 4 rows := fun J k' x' a' e => ownS.sl.keep fun b hb o ho => by
      have := E.lo b hb; have := (E.own.lt hb).2
      exact e.kp.1 b o ho (fun h => (hT b h).2.2 hb) (by omega) (by omega) (by omega)
    simp only [z7, zb, z8, zn, zc, zo, zf, ze, zd, List.set_cons_succ, List.set_cons_zero, O_mv, yg, j7, zz, zk, Nat.zero_add, zm, yb, zx, za, yj, xc, z6, zq, zj, yj, rm6, hlS]
    refine bk 4 rows.length (LsI P mb (K.length + 1) K.length k K6 R0 stms T rows (.slice ax ay az)) (LsO P mb (K.length + 1) K.length k K6 R0 stms T rows (.slice ax ay az)) ?_ ?_ _ ⟨K6, x, a, junk rfl, L0⟩ ?_
    · rintro n st hn ⟨J, x', a', ⟨j, rfl⟩, e⟩
      obtain ⟨b', o, v, a1, a2⟩ := (keepS J n x' a' e).atH (k := n) hn
      have h1 : ((n : Int) < (rows.length : Int)) = True := by simp; omega
      have h4 : rows[n].length = 4 := (keepS J n x' a' e).2 _ (List.getElem_mem hn)
      by_cases x0 : x' = 0
      · subst x0
        obtain ⟨a0, kn, n', rm, l', c1, c2, c3, c4, c5, c6, c7, c8⟩ := e.ex.1 rfl
        subst a0
        have hlen : stms.length = rows.length := by
          have := (c3.len).1
          rw [this, c7, List.length_append, List.length_drop, c6]
          have hdl : n ≤ stms.length := by
            rcases Nat.lt_or_ge stms.length n with h | h
            · exfalso
              have h3 := (c3.len).1
              rw [c7, List.length_append, List.length_drop, c6] at h3
              omega
            · exact h
          omega
        have hs : stms[n]? = some stms[n] := List.getElem?_eq_getElem (by omega)
        obtain ⟨row, J', hrow, ql, x'', a'', e'⟩ := ybi e4 (by omega) (by omega) (by omega) (by omega) (fun z hz => by have := hT z hz; exact ⟨by omega, by omega, by omega, by omega⟩) hgs e hs
        rw [List.getElem?_eq_getElem hn] at hrow
        have hrow := Option.some.inj hrow
        rw [← hrow] at ql
        simp only [z7, zr, yl, zb, zw, zu, z8, zn, zc, zp, zo, zf, ze, zd, List.set_cons_succ, List.set_cons_zero, O_mv, yu, yg, O_un, yf, List.map_cons, List.map_nil, vh, x7, y8, vj, xy, vp, List.length_cons, List.length_nil, Nat.reduceAdd, Nat.zero_add, Bool.not_true, zm, yb, zx, za, zi, y0, zl, y4, ya, xr, xh, yk, zy, zs, Option.map_some, eq_self, yp, Option.map_some, decide_true, h1, a1, a2, h4, ok_0 (moreL J _ _ _ _ e).rd, ql, xm (k := n) (by have := E.rl; omega)]
        exact ⟨J', x'', a'', junk rfl, e'⟩
      · have ob := fun s Q => zov s Q 5 4 (by decide)
        simp only [z7, zr, w6, yl, zb, zw, z8, zn, zc, zp, zo, ze, zd, List.set_cons_succ, List.set_cons_zero, O_mv, yu, yg, O_un, yf, List.map_cons, List.map_nil, vh, x7, y8, xy, vp, List.length_cons, List.length_nil, Nat.reduceAdd, Nat.zero_add, Bool.not_false, zm, yb, zx, za, yx, y0, zl, y4, ya, yk, zy, zs, Option.map_some, gj, eq_self, xj, Option.map_some, decide_true, h1, a1, a2, h4, fh (moreL J _ _ _ _ e).rd x0, ob, gj]
        exact ⟨_, x', a', n, junk rfl, moreL J _ _ _ _ e, fun h => absurd h x0⟩
    · rintro st ⟨J, x', a', ⟨j, rfl⟩, e⟩
      have h1 : ((rows.length : Int) < (rows.length : Int)) = False := by simp
      simp only [z7, zr, w6, zb, zu, z8, zn, zc, zo, ze, zd, List.set_cons_succ, List.set_cons_zero, yu, yg, xy, zm, yb, za, yx, gj, xj, decide_false, h1, gj]
      exact ⟨J, x', a', rows.length, junk rfl, e, fun _ => rfl⟩
    rintro st ⟨J, x', a', k', ⟨j, rfl⟩, e, hk'⟩
    have pJ : Pre h J := Pre.of (by have := p6.le; have := e.kp.2; omega) fun b o ho => by
      have hlt := (List.getElem?_eq_some_iff.1 ho).1
      exact e.kp.1 b o (by rw [p6.get hlt]; exact ho) (fun h => by have := hT b h; omega) (by have := pK.le; omega) (by have := pK.le; omega) (by omega)
    by_cases x0 : x' = 0
    · subst x0
      obtain ⟨a0, kn, n', rm, l', c1, c2, c3, c4, done, c6, c7, c8, c9⟩ := e.ex.1 rfl
      subst a0
      have hkk := hk' rfl
      have hdl : stms.drop k' = [] := by
        have h3 := (c3.len).1
        rw [c7, List.length_append, List.length_drop, c6, hkk] at h3
        exact List.drop_eq_nil_of_le (by omega)
      rw [hdl, List.append_nil] at c7
      rw [hdl, chkM] at c9
      simp only [List.append_nil] at c9
      subst c7
      simp only [z7, zr, xe, yl, zb, zu, z8, zn, zc, zo, zf, ze, zd, List.set_cons_succ, List.set_cons_zero, O_mv, yg, O_un, yf, List.map_cons, List.map_nil, vp, Bool.not_true, zm, yb, za, yj, zaw, yj, ok_0 e.rd, zaw]
      rw [zgq h rfl, hPM, c9]
      have hmJ : J[mb]? = some (.cells [.slice kx ky kz, .slice ax ay az] 0 false) := e.kp.1 _ _ hm6 (fun h => by have := hT _ h; omega) (by omega) (by omega) hmr
      have lmJ := (List.getElem?_eq_some_iff.1 hmJ).1
      have gJ : ∀ b o, K6[b]? = some o → ¬ T b → b ≠ K.length + 1 → b ≠ K.length → b ≠ P.r → J[b]? = some o := e.kp.1
      have lKJ : K6.length ≤ J.length := e.kp.2
      refine ⟨⟨mb, rfl, ⟨⟨_, _, rows, T, hmJ, own6.sl.keep fun b hb o ho => gJ b o ho (fun h => by have := hT b h; have := hb6 b hb; omega) (by have := hb6 b hb; omega) (by have := hb6 b hb; omega) (by have := hb6 b hb; omega), keepS J _ _ _ e, c3, fun z hz => ?_, fun b hb => ?_, fun b hb => ?_⟩, ?_, ?_⟩⟩, pJ⟩
      · have := hT z hz; exact ⟨by omega, by omega⟩
      · have := hb6 b hb; have := (own6.lt hb).2; exact ⟨by omega, by omega⟩
      · have := E.lo b hb; have := (E.own.lt hb).2; exact ⟨by omega, by omega⟩
      · exact ⟨by omega, lmJ⟩
      · refine ⟨?_, ?_, c8⟩
        · have h3 := (c3.len).1
          show l'.length ≤ 8193
          have := E.rl
          omega
        · have := znt names []; simp at this; show (b7 [] names).length ≤ 10000; omega
    · simp only [z7, zr, xe, zb, zw, z8, zn, zc, zo, zf, ze, zd, List.set_cons_succ, List.set_cons_zero, O_mv, yg, O_un, yf, List.map_cons, List.map_nil, zz, zk, vp, Nat.zero_add, Bool.not_false, zm, yb, za, y5, yj, xc, z6, zq, zj, List.getElem?_cons_zero, List.getElem?_cons_succ, zaw, yj, fh e.rd x0, e.rd.r0, zaw]
      rw [hPM, e.ex.2 x0]
      exact zt4 pJ x' a' x0
/-! Names' values in memory. -/
def enE (env : En) : List (Value × Value) := env.map fun p => (str p.1, agg (vw p.1 p.2.1 p.2.2))
theorem zx5 (env : En) (w : Bys) : findKey .str (str w) (enE env) = some ((bv w env).map fun p => agg (vw w p.1 p.2)) := by
  induction env with
  | nil => rfl
  | cons p r ih =>
    obtain ⟨k, b, v⟩ := p
    show findKey .str (str w) ((str k, agg (vw k b v)) :: enE r) = _
    rw [findKey, zno, bv]
    cases h : w == k
    · simpa using ih
    · have : w = k := eq_of_beq h
      subst this
      simp
def setE (w : Bys) (b : Bool) (v : Vv) : En → En
  | [] => [(w, b, v)]
  | (k, c, x) :: r => if w == k then (w, b, v) :: r else (k, c, x) :: setE w b v r
theorem yeb (w : Bys) (b : Bool) (v : Vv) (env : En) : px .str (str w) (agg (vw w b v)) (enE env) = some (enE (setE w b v env)) := by
  induction env with
  | nil => rfl
  | cons p r ih =>
    obtain ⟨k, c, x⟩ := p
    show px .str (str w) (agg (vw w b v)) ((str k, agg (vw k c x)) :: enE r) = _
    rw [px, zno, setE]
    cases h : w == k
    · simp only [enE] at ih ⊢; simp [ih]
    · have : w = k := eq_of_beq h
      subst this
      simp [enE]
def kdE (env : En) : Ex → Bool
  | .name _ _ w => ((bv w env).map (·.1)).getD false
  | .zero _ => false
  | .par _ _ e => kdE env e
  | .box _ _ => false
  | .un _ _ => false
  | .bin s _ _ _ => s
def nmE (env : En) : Ex → Bys
  | .name _ _ w => ((bv w env).map fun _ => w).getD []
  | .par _ _ e => nmE env e
  | _ => []
structure Wd (h : Heap) (q km : Nat) (u : U) (env : En) : Prop where
  hq : h[q]? = some (.cells [.int .u32 (u.toNat : Int), .map (some km)] 0 false)
  hk : h[km]? = some (.map (enE env))
theorem Wd.more {h : Heap} {q km : Nat} {u : U} {env : En} (W : Wd h q km u env) (L : Heap) : Wd (h ++ L) q km u env := ⟨xa L W.hq, xa L W.hk⟩
def zfh (u : U) (env : En) (e : Ex) : Prop := ∀ (h : Heap) (q km : Nat) (S : Nat → Prop) (v : Value), Wd h q km u env → TreeP h S v e →
  DF FF vr [pt q, v] h = some (agg (vw (nmE env e) (kdE env e) (evE u env e)), h)
set_option maxHeartbeats 4000000 in
theorem zwa (u : U) (env : En) (s : Bool) (a : Nat) (w : Bys) : zfh u env (.name s a w) := by
  intro h q km S v W tr
  obtain ⟨b, rfl, hbS, hbo⟩ := tr
  refine wh gm ?_
  have rb : ∀ L j, Heap.read1 (h ++ L) ⟨b, j, some 0⟩ = (vd zfv w a nilP nilP s)[j]? := fun L j => we (xa L hbo)
  have rq : ∀ L j, Heap.read1 (h ++ L) ⟨q, j, some 0⟩ = ([.int .u32 (u.toNat : Int), .map (some km)] : List Value)[j]? := fun L j => we (W.more L).hq
  have lk : ∀ L, zo9 (h ++ L) .str (agg (vw [] false v0)) false (.map (some km)) (str w) = _ := fun L => zhw _ (W.more L).hk (agg (vw [] false v0)) false (w := w) (zx5 env w)
  cases hl : bv w env with
  | none =>
    simp only [hl, Option.map_none, zi7, Bool.false_eq_true, if_false] at lk
    simp only [evE, kdE, nmE, hl, Option.map_none, Option.getD_none]
    simp only [jd, z7, zr, xe, yl, zb, zw, zu, z8, zn, zc, zp, zo, zf, ze, zd, List.set_cons_succ, List.set_cons_zero, O_mv, yu, yg, zz, zk, wg, y9, yc, yd, yz, ba, Nat.reduceLT, List.cons_append, List.nil_append, List.length_cons, List.length_nil, Nat.reduceAdd, Nat.reduceSub, Nat.zero_add, Bool.not_true, zm, yb, zx, za, y5, xx, y0, xc, z6, zl, y4, ya, zq, zj, xr, xh, yk, va, ve, zy, vm, zs, zh, zg, List.append_assoc, List.length_append, Nat.add_zero, List.getElem?_cons_zero, List.getElem?_cons_succ, Bool.bne_true, beq_self_eq_true, jq, eq_self, yi, w9, gg, qj, qz, j2, kg, zdt, zhx, rb, rq, qy, zhh, qf, qi, zb1, fc, lk, po, xq, zfv]
  | some p =>
    simp only [hl, Option.map_some, zi7, Bool.false_eq_true, if_false] at lk
    simp only [evE, kdE, nmE, hl, Option.map_some, Option.getD_some]
    simp only [jd, z7, zr, xe, yl, zb, zw, zu, z8, zn, zc, zp, zo, zf, ze, zd, List.set_cons_succ, List.set_cons_zero, O_mv, yu, yg, zz, zk, wg, y9, yc, yd, yz, ba, Nat.reduceLT, List.cons_append, List.nil_append, List.length_cons, List.length_nil, Nat.reduceAdd, Nat.reduceSub, Nat.zero_add, Bool.not_true, zm, yb, zx, za, y5, xx, y0, xc, z6, zl, y4, ya, zq, zj, xr, xh, yk, va, ve, zy, vm, zs, zh, zg, List.append_assoc, List.length_append, Nat.add_zero, List.getElem?_cons_zero, List.getElem?_cons_succ, Bool.bne_true, beq_self_eq_true, jq, eq_self, yi, w9, gg, qj, qz, j2, kg, zdt, zhx, rb, rq, qy, zhh, qf, qi, zb1, fc, lk, po, xq, zfv]
set_option maxHeartbeats 4000000 in
theorem zwt (u : U) (env : En) (a : Nat) : zfh u env (.zero a) := by
  intro h q km S v W tr
  obtain ⟨b, rfl, hbS, hbo⟩ := tr
  refine wh gm ?_
  have rb : ∀ L j, Heap.read1 (h ++ L) ⟨b, j, some 0⟩ = (vd [48] [] a nilP nilP false)[j]? := fun L j => we (xa L hbo)
  have rq : ∀ L j, Heap.read1 (h ++ L) ⟨q, j, some 0⟩ = ([.int .u32 (u.toNat : Int), .map (some km)] : List Value)[j]? := fun L j => we (W.more L).hq
  simp only [jd, z7, zr, xe, yl, zb, zu, z8, zn, zc, zp, zo, zf, ze, zd, List.set_cons_succ, List.set_cons_zero, O_mv, yu, yg, zz, zk, x7, y8, wg, y9, yc, yd, yz, ba, Nat.reduceLT, List.cons_append, List.nil_append, List.length_cons, List.length_nil, Nat.reduceAdd, Nat.reduceSub, Nat.zero_add, Bool.not_true, zm, yb, zx, za, zi, y0, xc, z6, zl, y4, ya, zq, zj, qq, xr, qx, xh, yk, va, ve, zy, vm, zs, zh, zg, List.append_assoc, List.length_append, Nat.add_zero, Option.map_some, Bool.bne_true, jq, eq_self, yi, w9, gg, qj, qz, j2, kg, zdt, zhx, rb, qy, qf, qi, zb1, po, xq, zrr, zr3, zr8, zru, ztt, ztl, zs3, zsc, zsk, ztb, zo0, zpf]
  rfl
set_option maxHeartbeats 8000000 in
theorem zx0 (u : U) (env : En) (s : Bool) (a : Nat) (e : Ex) (ih : zfh u env e) : zfh u env (.par s a e) := by
  intro h q km S v W tr
  obtain ⟨b, S', x, rfl, hbS, hbo, tx, -⟩ := tr
  have q1 := fun L => ih (h ++ L) q km S' x (W.more L) (tx.keep fun _ _ _ ho => xa L ho)
  refine wh gm ?_
  have rb : ∀ L j, Heap.read1 (h ++ L) ⟨b, j, some 0⟩ = (vd [40] [] a x nilP s)[j]? := fun L j => we (xa L hbo)
  have rq : ∀ L j, Heap.read1 (h ++ L) ⟨q, j, some 0⟩ = ([.int .u32 (u.toNat : Int), .map (some km)] : List Value)[j]? := fun L j => we (W.more L).hq
  obtain ⟨bx, op', w', p', r', hxb, _, _⟩ := tx.root
  subst hxb
  simp only [jd, z7, zr, xe, yl, zb, zw, zu, z8, zn, zc, zp, zo, zf, ze, zd, List.set_cons_succ, List.set_cons_zero, O_mv, yu, yg, yf, List.map_cons, List.map_nil, zz, zk, x7, y8, wg, y9, yc, yd, yz, ba, Nat.reduceLT, List.cons_append, List.nil_append, List.length_cons, List.length_nil, Nat.reduceAdd, Nat.reduceSub, Nat.zero_add, Bool.not_true, Bool.not_false, zm, yb, zx, za, y5, xx, y0, xc, z6, zl, y4, ya, zq, zj, qq, xr, qx, xh, yk, va, ve, zy, vm, zs, zh, zg, List.append_assoc, List.length_append, Nat.add_zero, Option.map_some, Bool.bne_true, beq_self_eq_true, jq, eq_self, yi, w9, gg, qj, qz, j2, kg, zdt, zhx, rb, qy, qf, qi, zb1, po, xo, xq, yag, q1]
  rfl
set_option maxHeartbeats 8000000 in
theorem zyz (u : U) (env : En) (a : Nat) (e : Ex) (ih : zfh u env e) : zfh u env (.box a e) := by
  intro h q km S v W tr
  obtain ⟨b, S', x, rfl, hbS, hbo, tx, -⟩ := tr
  have q1 := fun L => ih (h ++ L) q km S' x (W.more L) (tx.keep fun _ _ _ ho => xa L ho)
  refine wh gm ?_
  have rb : ∀ L j, Heap.read1 (h ++ L) ⟨b, j, some 0⟩ = (vd [91] [] a x nilP false)[j]? := fun L j => we (xa L hbo)
  have rq : ∀ L j, Heap.read1 (h ++ L) ⟨q, j, some 0⟩ = ([.int .u32 (u.toNat : Int), .map (some km)] : List Value)[j]? := fun L j => we (W.more L).hq
  obtain ⟨bx, op', w', p', r', hxb, _, _⟩ := tx.root
  subst hxb
  simp only [jd, z7, zr, xe, yl, zb, zw, zu, z8, zn, zc, zp, zo, zf, ze, zd, List.set_cons_succ, List.set_cons_zero, O_mv, yu, yg, yf, List.map_cons, List.map_nil, zz, zk, x7, y8, wg, y9, yc, yd, yz, ba, Nat.reduceLT, List.cons_append, List.nil_append, List.length_cons, List.length_nil, Nat.reduceAdd, Nat.reduceSub, Nat.zero_add, Bool.not_true, Bool.not_false, zm, yb, zx, za, zi, y0, xc, z6, zl, y4, ya, zq, zj, fp, bg, yq, qq, xr, qx, xh, yk, va, ve, zy, vm, zs, zh, zg, List.append_assoc, List.length_append, Nat.add_zero, Option.map_some, Bool.bne_true, beq_self_eq_true, jq, eq_self, yi, w9, gg, qj, qz, x9, j2, kg, bd_2, zdt, ya3, zhx, rb, qy, qf, qi, zb1, po, xo, xq, zro, zp2, zq0, znr, zp9, zq9, yf5, q1, zic]
  rfl
set_option maxHeartbeats 8000000 in
theorem ycr (u : U) (env : En) (o : Op1) (e : Ex) (ih : zfh u env e) : zfh u env (.un o e) := by
  intro h q km S v W tr
  obtain ⟨b, S', x, rfl, hbS, hbo, tx, -⟩ := tr
  have q1 := fun L => ih (h ++ L) q km S' x (W.more L) (tx.keep fun _ _ _ ho => xa L ho)
  refine wh gm ?_
  have rb : ∀ L j, Heap.read1 (h ++ L) ⟨b, j, some 0⟩ = (vd (op1S o) [] e.pl x nilP false)[j]? := fun L j => we (xa L hbo)
  have rq : ∀ L j, Heap.read1 (h ++ L) ⟨q, j, some 0⟩ = ([.int .u32 (u.toNat : Int), .map (some km)] : List Value)[j]? := fun L j => we (W.more L).hq
  obtain ⟨bx, op', w', p', r', hxb, _, _⟩ := tx.root
  subst hxb
  cases o
  all_goals
    simp only [jd, z7, zr, xe, yl, zb, zw, zu, z8, zn, zc, zp, zo, zf, ze, zd, List.set_cons_succ, List.set_cons_zero, O_mv, yu, yg, yf, List.map_cons, List.map_nil, zz, zk, x7, y8, wg, y9, yc, yd, yz, ba, Nat.reduceLT, List.cons_append, List.nil_append, List.length_cons, List.length_nil, Nat.reduceAdd, Nat.reduceSub, Nat.zero_add, Bool.not_true, Bool.not_false, zm, yb, zx, za, zi, y0, xc, z6, zl, y4, ya, zq, zj, qq, xr, qx, xh, yk, va, ve, zy, vm, zs, zh, zg, List.append_assoc, List.length_append, Nat.add_zero, Option.map_some, List.getElem?_cons_zero, Bool.bne_true, beq_self_eq_true, jq, eq_self, yi, w9, gg, qj, qz, x9, j2, kg, zdt, ye4, ya3, zhx, rb, rq, qy, qf, qi, zb1, po, xo, xq, op1S, zw1, yae, zzz, zu5, zyt, zx9, zy3, zxp, zzr, zyl, yar, zu1, zzk, zz7, yau, zyp, zzo, zsy, ztg, zr9, zod, zrz, zsa, zsq, zsh, zsd, zsr, zsf, zs7, zsg, zok, ztx, zrs, zr0, zrw, zrt, zs1, zob, q1, ziy, zwk, zto, zoo]
    rfl
set_option maxHeartbeats 8000000 in
theorem yav (u : U) (env : En) (s : Bool) (o : Op2) (l r : Ex) (ihl : zfh u env l) (ihr : zfh u env r) : zfh u env (.bin s o l r) := by
  intro h q km S v W tr
  obtain ⟨b, S1, S2, xv, yv, rfl, hbS, hbo, tx, ty, hs1, hs2⟩ := tr
  have q1 := fun L => ihl (h ++ L) q km S1 xv (W.more L) (tx.keep fun _ _ _ ho => xa L ho)
  have q2 := fun L => ihr (h ++ L) q km S2 yv (W.more L) (ty.keep fun _ _ _ ho => xa L ho)
  refine wh gm ?_
  have rb : ∀ L j, Heap.read1 (h ++ L) ⟨b, j, some 0⟩ = (vd (op2S o) [] l.pl xv yv s)[j]? := fun L j => we (xa L hbo)
  have rq : ∀ L j, Heap.read1 (h ++ L) ⟨q, j, some 0⟩ = ([.int .u32 (u.toNat : Int), .map (some km)] : List Value)[j]? := fun L j => we (W.more L).hq
  obtain ⟨bx, _, _, _, _, hxb, _, _⟩ := tx.root
  subst hxb
  obtain ⟨by_, _, _, _, _, hyb, _, _⟩ := ty.root
  subst hyb
  cases o
  all_goals
    simp only [jd, z7, zr, xe, zb, zw, zu, z8, zn, zc, zp, zo, zf, ze, zd, List.set_cons_succ, List.set_cons_zero, O_mv, yu, yg, yf, List.map_cons, List.map_nil, zz, zk, x7, y8, ww, wg, wd, y9, yc, yd, xb, xi, yz, ba, Nat.reduceLT, zvc, yam, zq8, List.cons_append, List.nil_append, List.length_cons, List.length_nil, Nat.reduceAdd, Nat.reduceSub, Nat.zero_add, Bool.not_false, zm, yb, zx, za, zi, slc, y0, xc, z6, zl, xd, x5, y4, ya, zq, zj, fp, bg, yq, qq, xr, qx, xh, yk, va, fx, b4, vg, ve, zy, vm, zs, zh, zg, List.append_assoc, List.length_append, List.append_nil, Nat.add_zero, Option.map_some, zwo, Bool.bne_true, beq_self_eq_true, jq, eq_self, zdb, yi, w9, gg, qj, u_or, ya4, zve, zih, qz, x9, j2, kg, bd_2, zdt, zyx, ye4, ya3, zhx, rb, qy, qf, qi, zb1, xo, xq, op2S, ydx, ygf, yd9, yd5, yf6, ydd, ydg, ydt, ygp, yd4, yd1, ydj, zub, yg1, yde, ydn, ydf, zt1, ydr, ygb, q1, q2, zr2, zl7, yaz, yed, yf8]
    rfl
theorem zfw (u : U) (env : En) : ∀ e, zfh u env e
  | .name s a w => zwa u env s a w
  | .zero a => zwt u env a
  | .par s a e => zx0 u env s a e (zfw u env e)
  | .box a e => zyz u env a e (zfw u env e)
  | .un o e => ycr u env o e (zfw u env e)
  | .bin s o l r => yav u env s o l r (zfw u env l) (zfw u env r)
theorem pa (w k : Bys) (b : Bool) (v : Vv) : ∀ env : En, bv w (setE k b v env) = if w == k then some (b, v) else bv w env
  | [] => by simp only [setE, bv]
  | (c, d, x) :: r => by
    rw [setE]
    by_cases h : k = c
    · subst h
      rw [if_pos (by simp), bv, bv]
      cases w == k <;> rfl
    · rw [if_neg (by simpa using h), bv, bv, pa w k b v r]
      by_cases h2 : w = c
      · subst h2
        have e1 : (w == w) = true := by simp
        have e2 : (w == k) = false := by simpa using fun e => h e.symm
        rw [e1, e2]; rfl
      · have e1 : (w == c) = false := by simpa using h2
        rw [e1]; cases w == k <;> rfl
def chg (o : Option (Bool × Vv)) (st : Bool) (v : Vv) : Bool := match o with
  | none => true
  | some (b, x) => !(b == st && zyf x v)
def zh5 (u : U) (p : En × Bool) (g : Gv) : En × Bool := (setE g.name g.e.set (evE u p.1 g.e) p.1, p.2 || chg (bv g.name p.1) g.e.set (evE u p.1 g.e))
def zb8 (u : U) (gs : List Gv) (env : En) : En × Bool := gs.foldl (zh5 u) (env, false)
def recN (u : U) (gs : List Gv) : Nat → En → En
  | 0, env => env
  | n + 1, env => if (zb8 u gs env).2 then recN u gs n (zb8 u gs env).1 else (zb8 u gs env).1
def Ends (u : U) (gs : List Gv) : Nat → En → Prop
  | 0, _ => False
  | n + 1, env => (zb8 u gs env).2 = false ∨ ((zb8 u gs env).2 = true ∧ Ends u gs n (zb8 u gs env).1)
def zbd (gs : List Gv) (env : En) : En := gs.foldl (fun en g => setE g.name false v0 en) env
def ybg (u : U) (gs : List Gv) (env : En) : En := gs.foldl (fun en g => setE g.name g.e.set (evE u env g.e) en) env
def recK (gs : List Gv) : Nat := gs.length * 1024 + 1
def doE (u : U) (env : En) : Stm → En
  | .lets false gs => ybg u gs env
  | .lets true gs => recN u gs (recK gs) (zbd gs env)
  | .chk _ _ _ => env
def zwc (u : U) (env : En) (k : Ck) (x : Ex) : Bool := match k with
  | .acyclic => zup (evE u env x).r
  | .irr => ztr (evE u env x).r
  | .empty => (evE u env x).s == 0#32 && zua (evE u env x).r
def zk4 (u : U) (env : En) : Stm → Bool
  | .lets _ _ => true
  | .chk k x _ => zwc u env k x
def zv8 : Stm → Bys
  | .lets _ _ => []
  | .chk _ _ a => a
def zak (u : U) : En → List Stm → Option Bys
  | _, [] => none
  | env, s :: l => if zk4 u env s then zak u (doE u env s) l else some (zv8 s)
def leR (a b : Nat → U) : Prop := ∀ i j, i < 32 → j < 32 → Bt a i j → Bt b i j
theorem leR.refl (a : Nat → U) : leR a a := fun _ _ _ _ h => h
theorem leR.trans {a b c : Nat → U} (h : leR a b) (k : leR b c) : leR a c := fun i j hi hj x => k i j hi hj (h i j hi hj x)
theorem ycu (a : Nat → U) : leR (fun _ => 0#32) a := fun i j _ _ h => by unfold Bt at h; simp at h
theorem zd5 {a b a' b' : Nat → U} (h : leR a a') (k : leR b b') : leR (zbc [a, b]) (zbc [a', b']) := fun i j hi hj x => by
  rw [zzd] at x ⊢
  obtain ⟨r, hr, hx⟩ := x
  simp only [List.mem_cons, List.not_mem_nil, or_false] at hr
  rcases hr with rfl | rfl
  · exact ⟨a', by simp, h i j hi hj hx⟩
  · exact ⟨b', by simp, k i j hi hj hx⟩
theorem zt5 {a b a' b' : Nat → U} (h : leR a a') (k : leR b b') : leR (zhu [a, b]) (zhu [a', b']) := fun i j hi hj x => by
  rw [ybd _ hi hj] at x ⊢
  intro r hr
  simp only [List.mem_cons, List.not_mem_nil, or_false] at hr
  rcases hr with rfl | rfl
  · exact h i j hi hj (x a (by simp))
  · exact k i j hi hj (x b (by simp))
theorem zqe {a b a' b' : Nat → U} (h : leR a a') (k : leR b' b) : leR (znn a b) (znn a' b') := fun i j hi hj x => by
  rw [zy5 _ _ _ hj] at x ⊢
  exact ⟨h i j hi hj x.1, fun y => x.2 (k i j hi hj y)⟩
theorem zxj {a b a' b' : Nat → U} (h : leR a a') (k : leR b b') : leR (seqK [a, b]) (seqK [a', b']) := fun i j hi hj x => by
  rw [ybb _ _ hi] at x ⊢
  obtain ⟨e, he, x1, x2⟩ := x
  exact ⟨e, he, h i e hi he x1, k e j he hj x2⟩
theorem zkn {a a' : Nat → U} (h : leR a a') : leR (zgz a) (zgz a') := fun i j hi hj x =>
  zwn a (fun i j => i < 32 → j < 32 → Bt (zgz a') i j) (fun i j x hi hj => yfn a' (h i j hi hj x)) (fun i m j hm x y hi hj => zwh a' hm (x hi hm) (y hm hj)) x hi hj
theorem zz1 {a a' : Nat → U} (h : leR a a') : leR (invR a) (invR a') := fun i j hi hj x => by
  rw [ye2 _ _ hj] at x ⊢
  exact h j i hj hi x
def NoR (rc : List Bys) : Bool → Ex → Prop
  | rt, .name _ _ w => rt = true → w ∉ rc
  | _, .zero _ => True
  | rt, .par _ _ e => NoR rc rt e
  | rt, .box _ e => NoR rc rt e
  | rt, .un _ e => NoR rc rt e
  | rt, .bin _ o l r => NoR rc rt l ∧ NoR rc (rt || o == .minus) r
def LeE (rc : List Bys) (env env' : En) : Prop := ∀ w, (bv w env = none ∧ bv w env' = none) ∨ ∃ b v v', bv w env = some (b, v) ∧ bv w env' = some (b, v') ∧ v.s = v'.s ∧ leR v.r v'.r ∧ (w ∉ rc → leR v'.r v.r)
theorem LeE.refl (rc : List Bys) (env : En) : LeE rc env env := fun w => by
  cases h : bv w env with
  | none => exact .inl ⟨rfl, rfl⟩
  | some p => exact .inr ⟨p.1, p.2, p.2, rfl, rfl, rfl, leR.refl _, fun _ => leR.refl _⟩
theorem LeE.trans {rc : List Bys} {a b c : En} (h : LeE rc a b) (k : LeE rc b c) : LeE rc a c := fun w => by
  rcases h w with ⟨h1, h2⟩ | ⟨x, v, v', h1, h2, h3, h4, h5⟩
  · rcases k w with ⟨k1, k2⟩ | ⟨y, u, u', k1, k2, k3, k4, k5⟩
    · exact .inl ⟨h1, k2⟩
    · rw [h2] at k1; cases k1
  · rcases k w with ⟨k1, k2⟩ | ⟨y, u, u', k1, k2, k3, k4, k5⟩
    · rw [h2] at k1; cases k1
    · rw [h2] at k1; cases k1
      exact .inr ⟨x, v, u', h1, k2, h3.trans k3, h4.trans k4, fun hw => (k5 hw).trans (h5 hw)⟩
theorem zgh (u : U) {rc : List Bys} {env env' : En} (L : LeE rc env env') : ∀ (e : Ex) (rt : Bool), NoR rc rt e → (evE u env e).s = (evE u env' e).s ∧ leR (evE u env e).r (evE u env' e).r ∧ (rt = true → leR (evE u env' e).r (evE u env e).r)
  | .name s a w, rt, n => by
    rcases L w with ⟨h1, h2⟩ | ⟨x, v, v', h1, h2, h3, h4, h5⟩
    · simp only [evE, h1, h2]; exact ⟨trivial, leR.refl _, fun _ => leR.refl _⟩
    · simp only [evE, h1, h2, Option.map_some, Option.getD_some]; exact ⟨h3, h4, fun h => h5 (n h)⟩
  | .zero a, rt, n => ⟨rfl, leR.refl _, fun _ => leR.refl _⟩
  | .par s a e, rt, n => zgh u L e rt n
  | .box a e, rt, n => by
    obtain ⟨h1, h2, h3⟩ := zgh u L e rt n
    simp only [evE, h1]; exact ⟨trivial, leR.refl _, fun _ => leR.refl _⟩
  | .un o e, rt, n => by
    obtain ⟨h1, h2, h3⟩ := zgh u L e rt n
    cases o <;> simp only [evE, evU]
    · exact ⟨trivial, zkn h2, fun h => zkn (h3 h)⟩
    · exact ⟨trivial, zd5 (zkn h2) (leR.refl _), fun h => zd5 (zkn (h3 h)) (leR.refl _)⟩
    · exact ⟨trivial, zd5 h2 (leR.refl _), fun h => zd5 (h3 h) (leR.refl _)⟩
    · exact ⟨trivial, zz1 h2, fun h => zz1 (h3 h)⟩
  | .bin s o l r, rt, n => by
    obtain ⟨h1, h2, h3⟩ := zgh u L l rt n.1
    obtain ⟨k1, k2, k3⟩ := zgh u L r _ n.2
    cases o <;> simp only [evE, evB, h1, k1]
    · exact ⟨trivial, zd5 h2 k2, fun h => zd5 (h3 h) (k3 (by simp [h]))⟩
    · exact ⟨trivial, zt5 h2 k2, fun h => zt5 (h3 h) (k3 (by simp [h]))⟩
    · exact ⟨trivial, zqe h2 (k3 (by simp)), fun h => zqe (h3 h) k2⟩
    · exact ⟨trivial, zxj h2 k2, fun h => zxj (h3 h) (k3 (by simp [h]))⟩
    · exact ⟨trivial, leR.refl _, fun _ => leR.refl _⟩
def KdOk (kn : Kn) (env : En) : Prop := ∀ w, (bv w env).map (·.1) = ji kn w
theorem zsb {kn : Kn} {env : En} (k : KdOk kn env) : ∀ {e : Ex}, Typ kn e → kdE env e = e.set
  | .name s a w, t => by
    have := k w
    rw [kdE]
    rw [show ji kn w = some s from t] at this
    rw [this]; rfl
  | .zero a, t => rfl
  | .par s a e, t => by rw [kdE, zsb k t.2]; exact t.1.symm
  | .box a e, t => rfl
  | .un o e, t => rfl
  | .bin s o l r, t => rfl
def S0 (env : En) : Prop := ∀ w v, bv w env = some (false, v) → v.s = 0#32
theorem zp5 {u : U} {kn : Kn} {env : En} (k : KdOk kn env) (z : S0 env) : ∀ {e : Ex}, Typ kn e → e.set = false → (evE u env e).s = 0#32
  | .name s a w, t, h => by
    have kw := k w
    rw [show ji kn w = some s from t] at kw
    rw [evE]
    cases hl : bv w env with
    | none => rfl
    | some p =>
      obtain ⟨b, v⟩ := p
      rw [hl] at kw
      have : b = s := by simpa using kw
      have hs : s = false := h
      subst this hs
      exact z w v hl
  | .zero a, t, h => rfl
  | .par s a e, t, h => by rw [evE]; exact zp5 k z t.2 (t.1.symm.trans h)
  | .box a e, t, h => rfl
  | .un o e, t, h => by cases o <;> rfl
  | .bin s o l r, t, h => by
    have hs : s = false := h
    obtain ⟨tl, tr, t⟩ := t
    cases o
    case seq => rfl
    case cross => rfl
    all_goals
      simp only at t
      have hl := zp5 (u := u) k z tl (t.1.symm.trans hs)
      have hr := zp5 (u := u) k z tr (t.2.trans (t.1.symm.trans hs))
      simp only [evE, evB, hl, hr]
      rfl
theorem zgg {kn : Kn} {rc : List Bys} : ∀ {e e' : Ex} {rt : Bool}, chkE kn rc rt e = .ok e' → NoR rc rt e'
  | .name s a w, e', rt, h => by
    rw [chkE] at h
    split at h
    · cases h
    · split at h
      · cases h
      · rename_i hc
        cases h
        intro hrt hw
        exact hc (by simp [hrt, hw])
  | .zero a, e', rt, h => by rw [chkE] at h; cases h; trivial
  | .par s a e, e', rt, h => by
    rw [chkE] at h
    split at h
    · cases h
    · rename_i x hx
      cases h; exact zgg (e' := x) hx
  | .box a e, e', rt, h => by
    rw [chkE] at h
    split at h
    · cases h
    · rename_i x hx
      split at h
      · cases h; exact zgg (e' := x) hx
      · cases h
  | .un o e, e', rt, h => by
    rw [chkE] at h
    split at h
    · cases h
    · rename_i x hx
      split at h
      · cases h
      · cases h; exact zgg (e' := x) hx
  | .bin s o l r, e', rt, h => by
    rw [chkE] at h
    cases hl : chkE kn rc rt l with
    | bad c a => rw [hl] at h; cases h
    | ok l' =>
      rw [hl] at h
      simp only at h
      cases hr : chkE kn rc (rt || o == .minus) r with
      | bad c a => rw [hr] at h; cases h
      | ok r' =>
        rw [hr] at h
        have tl := zgg hl
        have tr := zgg hr
        cases o <;> simp only at h <;> split at h <;> first | cases h; done | skip
        all_goals first | (cases h; exact ⟨tl, tr⟩) | (split at h <;> first | (cases h; done) | (cases h; exact ⟨tl, tr⟩))
end Go.Proofs.YtljdbheclfaloaaGreatDoor.AM
