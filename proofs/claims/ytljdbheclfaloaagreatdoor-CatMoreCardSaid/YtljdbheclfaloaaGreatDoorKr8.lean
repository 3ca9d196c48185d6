/-
  Part 8.
  Conditions: as each says.
-/
import Derived.Test.YtljdbheclfaloaaGreatDoorKr7
import Derived.WideShapes
import Derived.LaidMore
import Derived.LaidLaws
import Derived.HandedShaped
import Derived.Shelf.Vars
namespace Go.Proofs.YtljdbheclfaloaaGreatDoor.AM
open Go.RowKit
set_option linter.unusedSimpArgs false
set_option linter.unusedVariables false
set_option maxRecDepth 20000
/-- Rows stay. -/
structure KC (km : Nat) (h h' : Heap) : Prop where
  keep : ∀ (b : Nat) (l : List Value) (n : Nat) (ro : Bool), h[b]? = some (AObj.cells l n ro) → h'[b]? = some (AObj.cells l n ro)
  oth : ∀ (b : Nat) (o : AObj), h[b]? = some o → b ≠ km → h'[b]? = some o
  le : h.length ≤ h'.length
theorem KC.refl {km : Nat} (h : Heap) : KC km h h := ⟨fun _ _ _ _ e => e, fun _ _ e _ => e, Nat.le_refl _⟩
theorem KC.trans {km : Nat} {a b c : Heap} (h : KC km a b) (k : KC km b c) : KC km a c := ⟨fun i l n ro e => k.keep i l n ro (h.keep i l n ro e), fun i o e n => k.oth i o (h.oth i o e n) n, Nat.le_trans h.le k.le⟩
theorem KC.more {km : Nat} (h L : Heap) : KC km h (h ++ L) := ⟨fun _ _ _ _ e => xa L e, fun _ _ e _ => xa L e, by simp⟩
theorem KC.map {h : Heap} {km : Nat} {es : List (Value × Value)} (e : h[km]? = some (.map es)) (es' : List (Value × Value)) : KC km h (h.set km (.map es')) := ⟨fun b l n ro hb => by
  rw [List.getElem?_set_ne (by rintro rfl; rw [e] at hb; cases hb)]; exact hb, fun b o hb n => by rw [List.getElem?_set_ne (Ne.symm n)]; exact hb, by simp⟩
theorem KC.fin {km : Nat} {h H : Heap} (k : KC km h H) (v : Value) : KC km h (AM.finish h v H) := by
  rcases zaf h H v with hf | ⟨hf, hk⟩
  · rw [hf]; exact k
  · rw [hf]; exact KC.refl h
theorem zyw {h H : Heap} {b : Nat} {o : AObj} (v : Value) (hb : b < h.length) (e : H[b]? = some o) : (AM.finish h v H)[b]? = some o := by
  rcases zaf h H v with hf | ⟨hf, hk⟩
  · rw [hf]; exact e
  · rw [hf, ← hk, List.getElem?_take, if_pos hb]; exact e
theorem zeh {h : Heap} {b : Nat} {o : AObj} (e : h[b]? = some o) : b < h.length := (List.getElem?_eq_some_iff.1 e).1
theorem Wd.fin {h H : Heap} {q km : Nat} {u : U} {env env0 : En} (W0 : Wd h q km u env0) (W : Wd H q km u env) (v : Value) : Wd (AM.finish h v H) q km u env :=
  ⟨zyw v (zeh W0.hq) W.hq, zyw v (zeh W0.hk) W.hk⟩
theorem Wd.ne {h : Heap} {q km : Nat} {u : U} {env : En} (W : Wd h q km u env) : q ≠ km := by
  rintro rfl; have := W.hq.symm.trans W.hk; simp at this
theorem Wd.set {h : Heap} {q km : Nat} {u : U} {env : En} (W : Wd h q km u env) (env' : En) : Wd (h.set km (.map (enE env'))) q km u env' :=
  ⟨by rw [List.getElem?_set_ne (Ne.symm W.ne)]; exact W.hq, by rw [List.getElem?_set_self (zeh W.hk)]⟩
theorem yek {km : Nat} {h h' : Heap} (k : KC km h h') {p : Addr} {n : Nat} {l : List Value} (e : h.read p n = some l) : h'.read p n = some l := by
  unfold Heap.read at e ⊢
  cases hb : h[p.block]? with
  | none => rw [hb] at e; cases e
  | some o =>
    cases o with
    | cells c m ro => rw [k.keep _ _ _ _ hb]; rw [hb] at e; exact e
    | map es => rw [hb] at e; cases e
    | gone => rw [hb] at e; cases e
theorem Sl.kc {km : Nat} {h h' : Heap} {s : Value} {c : Nat} {rows : List (List Value)} (e : Sl h s c rows) (k : KC km h h') : Sl h' s c rows := by
  obtain ⟨hs | ⟨b, o, v, hs, hr⟩, hc⟩ := e
  · exact ⟨.inl hs, hc⟩
  · exact ⟨.inr ⟨b, o, v, hs, yek k hr⟩, hc⟩
theorem TreeP.kc {km : Nat} {h h' : Heap} (k : KC km h h') : ∀ {S : Nat → Prop} {v : Value} {e : Ex}, TreeP h S v e → TreeP h' S v e
  | S, v, .name s a w, t => by obtain ⟨b, hv, hb, ho⟩ := t; exact ⟨b, hv, hb, k.keep _ _ _ _ ho⟩
  | S, v, .zero a, t => by obtain ⟨b, hv, hb, ho⟩ := t; exact ⟨b, hv, hb, k.keep _ _ _ _ ho⟩
  | S, v, .par s a e, t => by obtain ⟨b, S', x, hv, hb, ho, t', hs⟩ := t; exact ⟨b, S', x, hv, hb, k.keep _ _ _ _ ho, t'.kc k, hs⟩
  | S, v, .box a e, t => by obtain ⟨b, S', x, hv, hb, ho, t', hs⟩ := t; exact ⟨b, S', x, hv, hb, k.keep _ _ _ _ ho, t'.kc k, hs⟩
  | S, v, .un o' e, t => by obtain ⟨b, S', x, hv, hb, ho, t', hs⟩ := t; exact ⟨b, S', x, hv, hb, k.keep _ _ _ _ ho, t'.kc k, hs⟩
  | S, v, .bin s o' l r, t => by obtain ⟨b, S1, S2, x, y, hv, hb, ho, t1, t2, h1, h2⟩ := t; exact ⟨b, S1, S2, x, y, hv, hb, k.keep _ _ _ _ ho, t1.kc k, t2.kc k, h1, h2⟩
theorem ydy (h : Heap) (neg : Bool) (n1 n2 : Bys) (s1 s2 : Bool) (v1 v2 : Vv) : zng h neg (.str :: .bool :: List.replicate 33 .int) (agg (vw n1 s1 v1)) (agg (vw n2 s2 v2)) = some (.bool ((n1 == n2 && (s1 == s2 && zyf v1 v2)) != neg), h) := yg6 h neg n1 n2 s1 s2 v1 v2
set_option maxHeartbeats 4000000 in
theorem zw5 {h : Heap} {q km : Nat} {u : U} {env : En} (W : Wd h q km u env) (w nm : Bys) (st : Bool) (v : Vv) :
    ∃ c h', DF FF jt [pt q, str w, agg (vw nm st v)] h = some (.bool c, h') ∧ Wd h' q km u (setE w st v env) ∧ KC km h h' ∧ ∀ p, bv w env = some p → c = chg (some p) st v := by
  have : ∃ x h', DF FF jt [pt q, str w, agg (vw nm st v)] h = some (x, h') ∧ ∃ c, x = .bool c ∧ Wd h' q km u (setE w st v env) ∧ KC km h h' ∧ ∀ p, bv w env = some p → c = chg (some p) st v := by
    refine wz zki ?_
    have rq : ∀ L j, Heap.read1 (h ++ L) ⟨q, j, some 0⟩ = ([.int .u32 (u.toNat : Int), .map (some km)] : List Value)[j]? := fun L j => we (W.more L).hq
    have lk : ∀ L, zo9 (h ++ L) .str (agg (vw [] false v0)) false (.map (some km)) (str w) = _ := fun L => zhw _ (W.more L).hk (agg (vw [] false v0)) false (w := w) (zx5 env w)
    have up : ∀ L, updO (h ++ L) .str (.map (some km)) (str w) (agg (vw w st v)) = some (undef, (h ++ L).set km (.map (enE (setE w st v env)))) := fun L => znj _ (W.more L).hk (yeb w st v env)
    have fin : ∀ L x, Wd (AM.finish h x ((h ++ L).set km (.map (enE (setE w st v env))))) q km u (setE w st v env) ∧ KC km h (AM.finish h x ((h ++ L).set km (.map (enE (setE w st v env))))) := fun L x =>
      ⟨W.fin ((W.more L).set _) x, ((KC.more h L).trans (KC.map (W.more L).hk _)).fin x⟩
    cases hl : bv w env with
    | none =>
      simp only [hl, Option.map_none, zi7, Bool.false_eq_true, if_false] at lk
      simp only [zb0, z7, xe, zb, z8, zn, zc, zp, zo, zf, ze, zd, List.set_cons_succ, List.set_cons_zero, O_mv, yg, zz, zk, x7, y8, Nat.zero_lt_succ, List.cons_append, List.nil_append, List.length_cons, List.length_nil, Nat.reduceAdd, Nat.reduceSub, Nat.zero_add, zm, yb, za, w8, xc, z6, zl, xd, zq, zj, xr, xh, yk, j6, vg, zh, zg, Nat.add_zero, Option.map_some, List.getElem?_cons_zero, List.getElem?_cons_succ, xt, Bool.bne_true, Bool.false_beq, eq_self, yh, zt, zss, yi, wk, j2, kg, zi2, rq, fc, lk, fy, up, ydy]
      exact ⟨_, rfl, (fin _ _).1, (fin _ _).2, fun p h => by cases h⟩
    | some p =>
      simp only [hl, Option.map_some, zi7, Bool.false_eq_true, if_false] at lk
      simp only [zb0, z7, xe, zb, z8, zn, zc, zp, zo, zf, ze, zd, List.set_cons_succ, List.set_cons_zero, O_mv, yg, zz, zk, x7, y8, Nat.zero_lt_succ, List.cons_append, List.nil_append, List.length_cons, List.length_nil, Nat.reduceAdd, Nat.reduceSub, Nat.zero_add, Bool.true_and, zm, yb, za, w8, xc, z6, zl, xd, zq, zj, xr, xh, yk, j6, vg, zh, zg, Nat.add_zero, Option.map_some, List.getElem?_cons_zero, List.getElem?_cons_succ, xt, Bool.bne_true, beq_self_eq_true, eq_self, yh, zt, zss, yi, wk, j2, kg, zi2, rq, fc, lk, fy, up, ydy]
      exact ⟨_, rfl, (fin _ _).1, (fin _ _).2, fun p' h => by cases h; simp [chg]⟩
  obtain ⟨x, h', hq, c, rfl, hw, hk, hc⟩ := this
  exact ⟨c, h', hq, hw, hk, hc⟩
/-! A statement's words. -/
theorem yf0 : (([114, 101, 99] : Bys) == [108, 101, 116]) = false := by decide
theorem ygq : (([97, 99, 121, 99, 108, 105, 99] : Bys) == [108, 101, 116]) = false := by decide
theorem yf7 : (([97, 99, 121, 99, 108, 105, 99] : Bys) == [114, 101, 99]) = false := by decide
theorem ygy : (([105, 114, 114, 101, 102, 108, 101, 120, 105, 118, 101] : Bys) == [108, 101, 116]) = false := by decide
theorem yg0 : (([105, 114, 114, 101, 102, 108, 101, 120, 105, 118, 101] : Bys) == [114, 101, 99]) = false := by decide
theorem ygs : (([105, 114, 114, 101, 102, 108, 101, 120, 105, 118, 101] : Bys) == [97, 99, 121, 99, 108, 105, 99]) = false := by decide
theorem yd6 : (([101, 109, 112, 116, 121] : Bys) == [108, 101, 116]) = false := by decide
theorem yda : (([101, 109, 112, 116, 121] : Bys) == [114, 101, 99]) = false := by decide
theorem yc9 : (([101, 109, 112, 116, 121] : Bys) == [97, 99, 121, 99, 108, 105, 99]) = false := by decide
theorem ydi : (([101, 109, 112, 116, 121] : Bys) == [105, 114, 114, 101, 102, 108, 101, 120, 105, 118, 101]) = false := by decide
theorem zvp {h : Heap} {p : Addr} {w : Bys} (hr : h.read1 p = some (str w)) : zb2 h (.pointer (some p)) (str w) = some (undef, h) := b6 hr rfl
theorem zus (h : Heap) (nm : Bys) (st : Bool) (v : Vv) : zur h 32 3 (agg (vw nm st v)) = some (agg (relV v.r), h) := by
  rw [zzt h (by rw [kg]; decide), zxi]
theorem zza (n : Bys) (b : Bool) (v : Vv) : w4 (vw [] false v0) [(0, 35, agg (vw n b v))] = some (vw n b v) := by
  have := zlc (kg [] false v0) (kg n b v)
  simpa [bw] using this
set_option maxHeartbeats 8000000 in
theorem yce {h : Heap} {q km : Nat} {u : U} {env : En} {S : Nat → Prop} {v : Value} {x : Ex} (W : Wd h q km u env) (t : TreeP h S v x) (k : Ck) (as_ : Bys) :
    DF FF ja [pt q, agg [str (ckS k), nils, v, str as_]] h = some (.bool (zwc u env k x), h) := by
  refine wh zb4 ?_
  obtain ⟨b, _, _, _, _, rfl, _, _⟩ := t.root
  have q1 := fun L => zfw u env x (h ++ L) q km S (pt b) (W.more L) (t.keep fun _ _ _ ho => xa L ho)
  cases k
  · simp only [k7, z7, zr, xe, zb, zw, zu, z8, zn, zc, zo, zf, ze, zd, List.set_cons_succ, List.set_cons_zero, O_mv, yu, yg, yf, List.map_cons, List.map_nil, zz, zk, List.cons_append, List.nil_append, List.length_cons, List.length_nil, Nat.reduceAdd, Nat.reduceSub, Nat.zero_add, zm, yb, zx, za, y5, xx, w8, xc, z6, zyu, yy, yq, zh, zg, Nat.add_zero, List.getElem?_cons_zero, List.getElem?_cons_succ, beq_self_eq_true, eq_self, yh, zt, yi, w9, j2, ckS, p8, ygq, yf7, yh, q1, zus, zpd]
    rw [zf4 _ _ _ _ _ rfl]
    rfl
  · simp only [k7, z7, zr, xe, zb, zw, zu, z8, zn, zc, zo, zf, ze, zd, List.set_cons_succ, List.set_cons_zero, O_mv, yu, yg, yf, List.map_cons, List.map_nil, zz, zk, List.cons_append, List.nil_append, List.length_cons, List.length_nil, Nat.reduceAdd, Nat.reduceSub, Nat.zero_add, zm, yb, zx, za, y5, xx, w8, xc, z6, zyu, yy, yq, zh, zg, Nat.add_zero, List.getElem?_cons_zero, List.getElem?_cons_succ, beq_self_eq_true, eq_self, yh, zt, yi, w9, j2, ckS, wIrr, ygy, yg0, ygs, yh, q1, zus, zd4]
    rw [zf4 _ _ _ _ _ rfl]
    rfl
  · cases hs : (evE u env x).s == 0#32
    · simp only [k7, z7, zr, xe, zb, zw, zu, z8, zn, ye, zc, zp, w5, zo, zf, ze, zd, List.set_cons_succ, List.set_cons_zero, O_mv, yw, xf, yu, yg, yf, List.map_cons, List.map_nil, zz, zk, jy, List.cons_append, List.nil_append, List.length_cons, List.length_nil, Nat.reduceAdd, Nat.reduceSub, Nat.zero_add, zm, yb, zx, za, y5, xx, y0, w8, xc, z6, zl, y4, ya, fp, yy, bg, yq, yk, va, ve, vm, zs, zh, zg, List.append_assoc, List.length_append, Nat.add_zero, List.getElem?_cons_zero, List.getElem?_cons_succ, beq_self_eq_true, eq_self, yh, zt, yi, w9, j2, kg, bd_2, ckS, zdw, yd6, yda, yc9, ydi, yh, q1, ygn, hs]
      rw [zf4 _ _ _ _ _ rfl]
      simp only [zwc, hs]
      rfl
    · simp only [k7, z7, zr, xe, zb, zw, zu, z8, zn, ye, zc, zp, xl, zo, zf, ze, zd, List.set_cons_succ, List.set_cons_zero, O_mv, yw, xf, yu, yg, yf, List.map_cons, List.map_nil, zz, zk, x7, y8, jy, List.cons_append, List.nil_append, List.length_cons, List.length_nil, Nat.reduceAdd, Nat.reduceSub, Nat.zero_add, zm, yb, zx, za, y5, xx, y0, w8, xc, z6, zl, y4, ya, fp, yy, bg, yq, qq, qx, yk, va, ve, vm, zs, zh, zg, List.append_assoc, List.length_append, Nat.add_zero, Option.map_some, List.getElem?_cons_zero, List.getElem?_cons_succ, beq_self_eq_true, eq_self, yh, zt, yi, w9, j2, kg, bd_2, ye4, ckS, zdw, yd6, yda, yc9, ydi, yh, q1, zk2, ygn, hs]
      rw [zf4 _ _ _ _ _ rfl]
      simp only [zwc, hs]
      rfl
def vrow (u : U) (env : En) (g : Gv) : List Value := vw (nmE env g.e) (kdE env g.e) (evE u env g.e)
structure VlS (h0 : Heap) (q km : Nat) (u : U) (env : En) (gs : List Gv) (k : Nat) (sv : Value) (K : Heap) : Prop where
  w : Wd K q km u env
  kc : KC km h0 K
  own : Own [] K sv 35 ((gs.take k).map (vrow u env))
  b : ∀ b, blk sv = some b → h0.length ≤ b
theorem zyk {km : Nat} {h K : Heap} {s : Value} {S : Nat → Prop} {gs : List Gv} {vs : List Value} (hs : Sl h s 3 (List.zipWith v7 gs vs)) (G : GsP h S vs gs) (kc : KC km h K) {k : Nat} {g : Gv} (hg : gs[k]? = some g) :
    ∃ b S' b' o v, (∀ H', rowO H' 3 s (.int .i64 (k : Int)) = some (.pointer (some ⟨b', o, some v⟩), H')) ∧ Heap.read K ⟨b', o, some v⟩ 3 = some (v7 g (pt b)) ∧ TreeP K S' (pt b) g.e := by
  obtain ⟨x, S', hx, t, _⟩ := G.get k g hg
  obtain ⟨b, _, _, _, _, rfl, _, _⟩ := t.root
  have hk := (List.getElem?_eq_some_iff.1 hg).1
  obtain ⟨b', o, v, a1, a2⟩ := (hs.kc kc).atH (k := k) (by rw [zep G.len]; exact hk)
  refine ⟨b, S', b', o, v, a1, ?_, t.kc kc⟩
  rw [a2]
  have := zzl G.len hg hx
  rw [List.getElem?_eq_getElem (by rw [zep G.len]; exact hk)] at this
  exact this
theorem zva {α β : Type} {l : List α} {k : Nat} {x : α} (h : l[k]? = some x) (f : α → β) : (l.take (k + 1)).map f = (l.take k).map f ++ [f x] := by
  rw [List.take_add_one, h]; simp
theorem zam {α β : Type} {l : List α} {k : Nat} {x : α} (h : l[k]? = some x) (f : β → α → β) (a : β) : (l.take (k + 1)).foldl f a = f ((l.take k).foldl f a) x := by
  rw [List.take_add_one, h, List.foldl_append]; rfl
theorem yfr {h0 K : Heap} {q km : Nat} {u : U} {env : En} {gs : List Gv} {k : Nat} {sv : Value} (W0 : Wd h0 q km u env) (e : VlS h0 q km u env gs k sv K) {g : Gv} (hg : gs[k]? = some g) (hl : gs.length ≤ 8192) {b : Nat} {S' : Nat → Prop} (t : TreeP K S' (pt b) g.e) :
    DF FF vr [pt q, pt b] (K ++ [.cells (v7 g (pt b)) 0 false]) = some (agg (vw (nmE env g.e) (kdE env g.e) (evE u env g.e)), K ++ [.cells (v7 g (pt b)) 0 false]) ∧
    ∃ s' K2, kh (K ++ [.cells (v7 g (pt b)) 0 false, .cells (vw (nmE env g.e) (kdE env g.e) (evE u env g.e)) 0 false]) 35 152 sv (zc9 (K ++ [.cells (v7 g (pt b)) 0 false, .cells (vw (nmE env g.e) (kdE env g.e) (evE u env g.e)) 0 false]) 35 (.slice (some ⟨K.length + 1, 0, some 0⟩) 1 35)) = some (s', K2) ∧
      VlS h0 q km u env gs (k + 1) s' K2 := by
  refine ⟨zfw u env g.e _ q km S' (pt b) (e.w.more _) (t.keep fun _ _ _ ho => xa _ ho), ?_⟩
  have hk := (List.getElem?_eq_some_iff.1 hg).1
  have hlen : ((gs.take k).map (vrow u env)).length = k := by simp; omega
  obtain ⟨s', K2, p1, p2, _, p4, p5, p6⟩ := (e.own.more [.cells (v7 g (pt b)) 0 false]).push (⟨_, rfl⟩ : Pre [] (K ++ [.cells (v7 g (pt b)) 0 false])) (row := vrow u env g) (bytes := 152) (kg _ _ _) (by rw [hlen]; unfold k8; omega)
  have p1' := p1
  rw [List.append_assoc, List.length_append] at p1'
  have nb : ∀ z o, h0[z]? = some o → blk sv ≠ some z := fun z o ho hz => by have := e.b z hz; have := zeh ho; omega
  refine ⟨s', K2, p1', ⟨p5 _ _ (xa _ e.w.hq) (nb _ _ W0.hq), p5 _ _ (xa _ e.w.hk) (nb _ _ W0.hk)⟩, ⟨fun z l n ro ho => p5 _ _ (xa _ (e.kc.keep _ _ _ _ ho)) (nb _ _ ho), fun z o ho n => p5 _ _ (xa _ (e.kc.oth _ _ ho n)) (nb _ _ ho), by have := e.kc.le; simp at p4; omega⟩, by rw [zva hg]; exact p2, fun z hz => ?_⟩
  rcases p6 with h | ⟨j, h, h'⟩
  · rw [h] at hz; exact e.b z hz
  · rw [h] at hz; cases hz; have := e.kc.le; simp at h'; omega
def VlI (h h0 : Heap) (q km : Nat) (u : U) (env : En) (gs : List Gv) (s : Value) (k : Nat) (st : St) : Prop := ∃ K sv, (∃ j : Nat → Value, st = ⟨[pt q, j 1, j 2, pt h.length, j 4, sv, j 6, j 7, j 8, j 9, j 10, j 11, j 12, j 13, j 14, j 15, j 16, j 17, j 18, j 19, j 20, s, .int .i64 (gs.length : Int), .int .i64 (k : Int), j 24, j 25, j 26, j 27, j 28, j 29, j 30, j 31, j 32, j 33, j 34, j 35, j 36, j 37, j 38, j 39, j 40, j 41, j 42, j 43, j 44, j 45, j 46, j 47, j 48, j 49, j 50, j 51, j 52, j 53, j 54, j 55, j 56, j 57, j 58, j 59, j 60, j 61, j 62, j 63, j 64, j 65, j 66, j 67, j 68, j 69, j 70, j 71, j 72, j 73, j 74, j 75, j 76, j 77, j 78, j 79, j 80, j 81, j 82, j 83, j 84, j 85, j 86, j 87, j 88, j 89, j 90, j 91, j 92, j 93, j 94, j 95, j 96, j 97, j 98, j 99, j 100, j 101, j 102, j 103, j 104, j 105, j 106, j 107, j 108, j 109, j 110, j 111, j 112, j 113, j 114, j 115, j 116], K⟩) ∧ VlS h0 q km u env gs k sv K
def VlO (h h0 : Heap) (q km : Nat) (u : U) (env : En) (gs : List Gv) (st : St) : Prop := ∃ K sv, (∃ j : Nat → Value, st = ⟨[pt q, j 1, j 2, pt h.length, j 4, sv, j 6, j 7, j 8, j 9, j 10, j 11, j 12, j 13, j 14, j 15, j 16, j 17, j 18, j 19, j 20, j 21, j 22, j 23, j 24, j 25, j 26, j 27, j 28, j 29, j 30, j 31, j 32, j 33, j 34, j 35, j 36, j 37, j 38, j 39, j 40, j 41, j 42, j 43, j 44, j 45, j 46, j 47, j 48, j 49, j 50, j 51, j 52, j 53, j 54, j 55, j 56, j 57, j 58, j 59, j 60, j 61, j 62, j 63, j 64, j 65, j 66, j 67, j 68, j 69, j 70, j 71, j 72, j 73, j 74, j 75, j 76, j 77, j 78, j 79, j 80, j 81, j 82, j 83, j 84, j 85, j 86, j 87, j 88, j 89, j 90, j 91, j 92, j 93, j 94, j 95, j 96, j 97, j 98, j 99, j 100, j 101, j 102, j 103, j 104, j 105, j 106, j 107, j 108, j 109, j 110, j 111, j 112, j 113, j 114, j 115, j 116], K⟩) ∧ VlS h0 q km u env gs gs.length sv K
structure GvS (h0 : Heap) (q km : Nat) (u : U) (env env' : En) (gs : List Gv) (sv : Value) (K : Heap) : Prop where
  w : Wd K q km u env'
  kc : KC km h0 K
  sl : Sl K sv 35 (gs.map (vrow u env))
def gvE (u : U) (env : En) (gs : List Gv) (k : Nat) : En := (gs.take k).foldl (fun en g => setE g.name g.e.set (evE u env g.e) en) env
theorem ycp {h0 K : Heap} {q km : Nat} {u : U} {env : En} {gs : List Gv} {k : Nat} {sv : Value} (e : GvS h0 q km u env (gvE u env gs k) gs sv K) {g : Gv} (hg : gs[k]? = some g) (hkd : kdE env g.e = g.e.set) (b : Nat) :
    ∃ b' o v c K2, (∀ H', rowO H' 35 sv (.int .i64 (k : Int)) = some (.pointer (some ⟨b', o, some v⟩), H')) ∧ Heap.read (K ++ [.cells (v7 g (pt b)) 0 false]) ⟨b', o, some v⟩ 35 = some (vrow u env g) ∧
      DF FF jt [pt q, str g.name, agg (vrow u env g)] (K ++ [.cells (v7 g (pt b)) 0 false]) = some (.bool c, K2) ∧ GvS h0 q km u env (gvE u env gs (k + 1)) gs sv K2 := by
  have hk := (List.getElem?_eq_some_iff.1 hg).1
  obtain ⟨b', o, v, a1, a2⟩ := (e.sl.kc (KC.more (km := km) K [.cells (v7 g (pt b)) 0 false])).atH (k := k) (by simpa using hk)
  obtain ⟨c, K2, q1, w2, k2, _⟩ := zw5 (e.w.more [.cells (v7 g (pt b)) 0 false]) g.name (nmE env g.e) (kdE env g.e) (evE u env g.e)
  refine ⟨b', o, v, c, K2, a1, ?_, q1, ⟨?_, (e.kc.trans (KC.more _ _)).trans k2, (e.sl.kc (KC.more (km := km) _ _)).kc k2⟩⟩
  · rw [a2, List.getElem_map, (List.getElem?_eq_some_iff.1 hg).2]
  · rw [gvE, zam hg]; rw [hkd] at w2; exact w2
def GvI (h h0 : Heap) (q km : Nat) (u : U) (env : En) (gs : List Gv) (s : Value) (k : Nat) (st : St) : Prop := ∃ K sv, (∃ j : Nat → Value, st = ⟨[pt q, j 1, j 2, j 3, j 4, sv, j 6, j 7, j 8, j 9, j 10, j 11, j 12, j 13, j 14, j 15, j 16, j 17, j 18, j 19, j 20, j 21, j 22, j 23, j 24, j 25, j 26, j 27, j 28, j 29, j 30, j 31, j 32, j 33, j 34, j 35, s, .int .i64 (gs.length : Int), .int .i64 (k : Int), j 39, j 40, j 41, j 42, j 43, j 44, j 45, j 46, j 47, j 48, j 49, j 50, j 51, j 52, j 53, j 54, j 55, j 56, j 57, j 58, j 59, j 60, j 61, j 62, j 63, j 64, j 65, j 66, j 67, j 68, j 69, j 70, j 71, j 72, j 73, j 74, j 75, j 76, j 77, j 78, j 79, j 80, j 81, j 82, j 83, j 84, j 85, j 86, j 87, j 88, j 89, j 90, j 91, j 92, j 93, j 94, j 95, j 96, j 97, j 98, j 99, j 100, j 101, j 102, j 103, j 104, j 105, j 106, j 107, j 108, j 109, j 110, j 111, j 112, j 113, j 114, j 115, j 116], K⟩) ∧ GvS h0 q km u env (gvE u env gs k) gs sv K
def GvO (h h0 : Heap) (q km : Nat) (u : U) (env : En) (gs : List Gv) (st : St) : Prop := ∃ K, (∃ j : Nat → Value, st = ⟨[j 0, j 1, j 2, j 3, j 4, j 5, j 6, j 7, j 8, j 9, j 10, j 11, j 12, j 13, j 14, j 15, j 16, j 17, j 18, j 19, j 20, j 21, j 22, j 23, j 24, j 25, j 26, j 27, j 28, j 29, j 30, j 31, j 32, j 33, j 34, j 35, j 36, j 37, j 38, j 39, j 40, j 41, j 42, j 43, j 44, j 45, j 46, j 47, j 48, j 49, j 50, j 51, j 52, j 53, j 54, j 55, j 56, j 57, j 58, j 59, j 60, j 61, j 62, j 63, j 64, j 65, j 66, j 67, j 68, j 69, j 70, j 71, j 72, j 73, j 74, j 75, j 76, j 77, j 78, j 79, j 80, j 81, j 82, j 83, j 84, j 85, j 86, j 87, j 88, j 89, j 90, j 91, j 92, j 93, j 94, j 95, j 96, j 97, j 98, j 99, j 100, j 101, j 102, j 103, j 104, j 105, j 106, j 107, j 108, j 109, j 110, j 111, j 112, j 113, j 114, j 115, j 116], K⟩) ∧ Wd K q km u (ybg u gs env) ∧ KC km h0 K
set_option maxHeartbeats 8000000 in
theorem yc2 {h : Heap} {q km : Nat} {u : U} {env : En} {kn : Kn} {S : Nat → Prop} {vs : List Value} {s : Value} {gs : List Gv} (W : Wd h q km u env) (hs : Sl h s 3 (List.zipWith v7 gs vs)) (G : GsP h S vs gs) (hl : gs.length ≤ 8192) (kd : KdOk kn env) (ty : ∀ g ∈ gs, Typ kn g.e) :
    ∃ h', DF FF ja [pt q, agg [str wLet, s, nilP, str []]] h = some (.bool true, h') ∧ Wd h' q km u (ybg u gs env) ∧ KC km h h' := by
  have : ∃ v h', DF FF ja [pt q, agg [str wLet, s, nilP, str []]] h = some (v, h') ∧ (v = .bool true ∧ Wd h' q km u (ybg u gs env) ∧ KC km h h') := by
    refine wz zb4 ?_
    have lens : ∀ K, lenO K s = some (.int .i64 (gs.length : Int), K) := fun K => by rw [hs.len, zep G.len]
    obtain ⟨h0, hh0⟩ : ∃ h0, h0 = h ++ [AObj.cells [str [108, 101, 116], s, nilP, str []] 0 false] := ⟨_, rfl⟩
    have k0 : KC km h h0 := by rw [hh0]; exact KC.more _ _
    have W0 : Wd h0 q km u env := by rw [hh0]; exact W.more _
    have g0 : h0[h.length]? = some (.cells [str [108, 101, 116], s, nilP, str []] 0 false) := by rw [hh0]; simp
    have rg : ∀ K, KC km h0 K → ∀ j, Heap.read1 K ⟨h.length, j, some 0⟩ = ([str [108, 101, 116], s, nilP, str []] : List Value)[j]? := fun K kc j => we (kc.keep _ _ _ _ g0)
    have rg0 := rg h0 (KC.refl _)
    simp only [k7, z7, zr, zb, zw, z8, zn, zc, zo, zf, ze, zd, List.set_cons_succ, List.set_cons_zero, O_mv, yu, yg, j7, zz, zk, List.cons_append, List.nil_append, List.length_cons, List.length_nil, Nat.reduceAdd, Nat.reduceSub, Nat.zero_add, zm, yb, zx, za, w8, xc, z6, zh, zg, Nat.add_zero, List.getElem?_cons_zero, List.getElem?_cons_succ, beq_self_eq_true, eq_self, yh, zt, yi, w9, j2, wLet, yh, ← hh0, rg0, lens]
    refine bk 1 gs.length (VlI h h0 q km u env gs s) (VlO h h0 q km u env gs) ?_ ?_ _ ⟨h0, _, junk rfl, W0, KC.refl _, Own.nil _ _ _, fun b hb => by simp [blk] at hb⟩ ?_
    · rintro k st hk ⟨K, sv, ⟨j, rfl⟩, e⟩
      have hg : gs[k]? = some gs[k] := List.getElem?_eq_getElem hk
      obtain ⟨b, S', b', o, v, a1, a2, t⟩ := zyk hs G (k0.trans e.kc) hg
      obtain ⟨q1, s', K2, p1, e'⟩ := yfr W0 e hg hl t
      have h1 : ((k : Int) < (gs.length : Int)) = True := by simp; omega
      simp only [z7, zr, yl, zb, zw, z8, zn, zc, zp, zo, zf, ze, zd, List.set_cons_succ, List.set_cons_zero, O_mv, yu, yg, yf, List.map_cons, List.map_nil, vh, zz, zk, x7, y8, ww, wd, yc, yd, xb, xi, vj, xy, List.cons_append, List.nil_append, List.length_cons, List.length_nil, Nat.reduceAdd, Nat.zero_add, zm, yb, zx, za, zi, slc, qv, y0, xc, z6, zl, y4, ya, yy, yq, yk, zy, zs, List.append_assoc, List.length_append, List.append_nil, Option.map_some, eq_self, yp, decide_true, kg, h1, a1, a2, ge, zeq, q1, zza, p1, xm (k := k) (by omega)]
      exact ⟨K2, s', junk rfl, e'⟩
    · rintro st ⟨K, sv, ⟨j, rfl⟩, e⟩
      have h1 : ((gs.length : Int) < (gs.length : Int)) = False := by simp
      simp only [z7, zr, w6, zb, zu, z8, zn, zc, zo, ze, zd, List.set_cons_succ, List.set_cons_zero, yu, yg, xy, zm, yb, za, yx, gj, xj, decide_false, h1, gj]
      exact ⟨K, sv, junk rfl, e⟩
    rintro st ⟨K, sv, ⟨j, rfl⟩, e⟩
    have rgK := rg K e.kc
    simp only [z7, zb, z8, zn, zc, zo, zf, ze, zd, List.set_cons_succ, List.set_cons_zero, O_mv, yg, j7, zz, zk, Nat.zero_add, zm, yb, zx, za, yj, xc, z6, List.getElem?_cons_zero, List.getElem?_cons_succ, rgK, lens]
    refine bk 3 gs.length (GvI h h0 q km u env gs s) (GvO h h0 q km u env gs) ?_ ?_ _ ⟨K, sv, junk rfl, e.w, e.kc, by have := e.own.sl; rwa [List.take_length] at this⟩ ?_
    · rintro k st hk ⟨K, sv, ⟨j, rfl⟩, e⟩
      have hg : gs[k]? = some gs[k] := List.getElem?_eq_getElem hk
      obtain ⟨b, S', b', o, v, a1, a2, t⟩ := zyk hs G (k0.trans e.kc) hg
      obtain ⟨b2, o2, v2, c, K2, r1, r2, q1, e'⟩ := ycp e hg (zsb kd (ty _ (List.getElem_mem hk))) b
      have h1 : ((k : Int) < (gs.length : Int)) = True := by simp; omega
      simp only [z7, zr, yl, zb, zw, z8, zn, zc, zp, zo, zf, ze, zd, List.set_cons_succ, List.set_cons_zero, O_mv, yu, yg, yf, List.map_cons, List.map_nil, vh, zz, zk, x7, y8, vj, xy, List.length_cons, List.length_nil, Nat.reduceAdd, Nat.zero_add, zm, yb, zx, za, zi, y0, xc, z6, zl, y4, ya, yy, yq, yk, zy, zs, Nat.add_zero, Option.map_some, eq_self, yp, decide_true, h1, a1, a2, ge, zge, r1, r2, q1, xm (k := k) (by omega)]
      exact ⟨K2, sv, junk rfl, e'⟩
    · rintro st ⟨K, sv, ⟨j, rfl⟩, e⟩
      have h1 : ((gs.length : Int) < (gs.length : Int)) = False := by simp
      simp only [z7, zr, w6, zb, zu, z8, zn, zc, zo, ze, zd, List.set_cons_succ, List.set_cons_zero, yu, yg, xy, zm, yb, za, yx, gj, xj, decide_false, h1, gj]
      have w := e.w
      rw [gvE, List.take_length] at w
      exact ⟨K, junk rfl, w, e.kc⟩
    rintro st ⟨K, ⟨j, rfl⟩, w, k⟩
    simp only [z7, xe, zb, z8, zn, zc, zf, ze, zd, List.set_cons_succ, List.set_cons_zero, O_mv, zm, yb, za, zi, yj, xt, eq_self]
    exact ⟨trivial, W.fin w _, (k0.trans k).fin _⟩
  obtain ⟨v, h', hq, rfl, hw, hk⟩ := this
  exact ⟨h', hq, hw, hk⟩
def zrh : Stm → List Bys
  | .lets _ _ => []
  | .chk _ _ a => [a]
def b5 (l : List Stm) : List Bys := l.flatMap zrh
def zc2 (l : List Stm) : Kn := l.flatMap Stm.given
theorem ydz {h : Heap} {ss : Value} {rows : List (List Value)} {T : Nat → Prop} {l : List Stm} (hs : Sl h ss 4 rows) (sp : StsP h T rows l) {K : Heap} (p : Pre h K) {k : Nat} {s : Stm} (hk : l[k]? = some s) :
    ∃ row b' o v Tk, row.length = 4 ∧ row[3]? = some (str (zv8 s)) ∧ (∀ H', rowO H' 4 ss (.int .i64 (k : Int)) = some (.pointer (some ⟨b', o, some v⟩), H')) ∧ Heap.read K ⟨b', o, some v⟩ 4 = some row ∧ StP h Tk row s := by
  obtain ⟨row, Tk, hr, sk, _⟩ := sp.focus hk
  have hlt := (List.getElem?_eq_some_iff.1 hr).1
  obtain ⟨b', o, v, a1, a2⟩ := (hs.pre p).atH (k := k) hlt
  have hr' : rows[k] = row := (List.getElem?_eq_some_iff.1 hr).2
  rw [hr'] at a2
  refine ⟨row, b', o, v, Tk, hs.2 row (List.mem_of_getElem? hr), ?_, a1, a2, sk⟩
  cases s with
  | lets rc gs => obtain ⟨_, _, _, rfl, _⟩ := sk; rfl
  | chk c x a => obtain ⟨_, rfl, _⟩ := sk; rfl
theorem zdd {α β : Type} {l : List α} {k : Nat} {x : α} (h : l[k]? = some x) (f : α → List β) : (l.take (k + 1)).flatMap f = (l.take k).flatMap f ++ f x := by
  rw [List.take_add_one, h, List.flatMap_append]; simp
def wRow (w : Bys) : List Value := [str w]
theorem znz : ∀ (l : List Stm), (b5 l).length ≤ l.length
  | [] => Nat.le_refl _
  | s :: l => by
    have := znz l
    unfold b5 at this ⊢
    rw [List.flatMap_cons, List.length_append]
    have h2 : (zrh s).length ≤ 1 := by cases s <;> simp [zrh]
    rw [List.length_cons]; omega
def CkI (h : Heap) (l : List Stm) (ss : Value) (k : Nat) (st : St) : Prop := ∃ K sv, (∃ j : Nat → Value, st = ⟨[j 0, j 1, j 2, sv, j 4, j 5, j 6, j 7, j 8, ss, .int .i64 (l.length : Int), .int .i64 (k : Int), j 12, j 13, j 14, j 15, j 16, j 17, j 18, j 19, j 20, j 21, j 22, j 23, j 24], K⟩) ∧ Pre h K ∧ Own h K sv 1 ((b5 (l.take k)).map wRow)
def CkO (h : Heap) (l : List Stm) (st : St) : Prop := ∃ K sv, (∃ j : Nat → Value, st = ⟨[j 0, j 1, j 2, sv, j 4, j 5, j 6, j 7, j 8, j 9, j 10, j 11, j 12, j 13, j 14, j 15, j 16, j 17, j 18, j 19, j 20, j 21, j 22, j 23, j 24], K⟩) ∧ Pre h K ∧ Own h K sv 1 ((b5 l).map wRow)
set_option maxHeartbeats 4000000 in
theorem zgb {h : Heap} {S : Nat → Prop} {mb : Nat} {md : Md} (M : ModP h S mb md) :
    ∃ v h', DF FF gw [pt mb] h = some (v, h') ∧ (Own h h' v 1 ((b5 md.l).map wRow) ∧ Pre h h') := by
  obtain ⟨⟨ks, ss, rows, T, hm, hk, hs, sp, _⟩, _, hlen⟩ := M
  refine wz ziu ?_
  have lens : ∀ K, lenO K ss = some (.int .i64 (md.l.length : Int), K) := fun K => by rw [hs.len, (sp.len).1]
  have rm : ∀ j, Heap.read1 h ⟨mb, j, some 0⟩ = ([ks, ss] : List Value)[j]? := fun j => we hm
  simp only [zdk, z7, zb, z8, zn, zc, zo, zf, ze, zd, List.set_cons_succ, List.set_cons_zero, O_mv, yg, j7, zz, zk, List.cons_append, List.nil_append, List.length_cons, List.length_nil, Nat.reduceSub, Nat.zero_add, zm, yb, zx, za, xc, z6, zq, zj, zh, zg, List.getElem?_cons_zero, List.getElem?_cons_succ, yi, rm, lens]
  refine bk 0 md.l.length (CkI h md.l ss) (CkO h md.l) ?_ ?_ _ ⟨h, _, junk rfl, Pre.refl _, Own.nil _ _ _⟩ ?_
  · rintro k st hk' ⟨K, sv, ⟨j, rfl⟩, p, own⟩
    have hd : md.l[k]? = some md.l[k] := List.getElem?_eq_getElem hk'
    obtain ⟨row, b', o, v, Tk, h4, h3, a1, a2, sk⟩ := ydz hs sp p hd
    have hl : ((k : Int) < (md.l.length : Int)) = True := by simp; omega
    obtain ⟨s, hss⟩ : ∃ s, s = md.l[k] := ⟨_, rfl⟩
    rw [← hss] at sk hd h3
    cases s with
    | lets rc gs =>
      obtain ⟨s, vs, S', rfl, _⟩ := sk
      simp only [z7, zr, yl, zb, zw, zu, z8, zn, zc, zp, zo, zf, ze, zd, List.set_cons_succ, List.set_cons_zero, O_mv, yu, yg, vh, zz, zk, x7, y8, vj, xy, List.length_cons, List.length_nil, Nat.reduceAdd, Nat.zero_add, Bool.not_true, zm, yb, zx, za, zi, y0, xc, z6, zl, y4, ya, yy, yq, yk, zy, zs, Option.map_some, List.getElem?_cons_zero, List.getElem?_cons_succ, Bool.bne_true, jq, eq_self, yp, decide_true, hl, a1, a2, po, xq, xm (k := k) (by omega)]
      exact ⟨_, sv, junk rfl, p.more _, by unfold b5; rw [zdd hd]; simpa [zrh, b5] using own.more _⟩
    | chk c x a =>
      obtain ⟨v', rfl, t⟩ := sk
      obtain ⟨b, _, _, _, _, rfl, _, _⟩ := t.root
      have hroom : (((b5 (md.l.take k)).map wRow).length + 1) * 16 ≤ k8 := by
        have := znz (md.l.take k)
        rw [List.length_map]
        have h2 : (md.l.take k).length ≤ k := by simp; omega
        have := hlen.1
        unfold k8; omega
      obtain ⟨s', K2, p1, p2, p3, p4, p5, p6⟩ := (own.more [.cells [str (ckS c), nils, pt b, str a] 0 false]).push (p.more _) (row := wRow a) (bytes := 16) rfl hroom
      rw [List.append_assoc, List.length_append] at p1
      have p1' : kh (K ++ [AObj.cells [str (ckS c), nils, pt b, str a] 0 false, AObj.cells [str a] 0 false]) 1 16 sv (zc9 (K ++ [AObj.cells [str (ckS c), nils, pt b, str a] 0 false, AObj.cells [str a] 0 false]) 1 (.slice (some ⟨K.length + 1, 0, some 0⟩) 1 1)) = some (s', K2) := p1
      simp only [z7, zr, yl, zb, zw, z8, zn, zc, zp, zo, zf, ze, zd, List.set_cons_succ, List.set_cons_zero, O_mv, yu, yg, vh, zz, zk, x7, y8, ww, wd, yc, yd, xb, xi, yz, Nat.lt_add_one, vj, xy, List.cons_append, List.nil_append, List.length_cons, List.length_nil, Nat.reduceAdd, Nat.zero_add, Bool.not_false, zm, yb, zx, za, zi, slc, qv, y0, xc, z6, zl, y4, ya, yy, yq, yk, zy, zs, List.append_assoc, List.length_append, List.append_nil, Option.map_some, List.getElem?_cons_zero, List.getElem?_cons_succ, Bool.bne_true, jq, eq_self, yp, wo, decide_true, hl, a1, a2, xo, xq, p1', xm (k := k) (by omega)]
      exact ⟨K2, s', junk rfl, p3, by unfold b5; rw [zdd hd, List.map_append]; simpa [zrh, b5] using p2⟩
  · rintro st ⟨K, sv, ⟨j, rfl⟩, p, own⟩
    have hl : ((md.l.length : Int) < (md.l.length : Int)) = False := by simp
    simp only [z7, zr, w6, zb, zu, z8, zn, zc, zo, ze, zd, List.set_cons_succ, List.set_cons_zero, yu, yg, xy, zm, yb, za, yx, gj, xj, decide_false, hl, gj]
    rw [List.take_length] at own
    exact ⟨K, sv, junk rfl, p, own⟩
  rintro st ⟨K, sv, ⟨j, rfl⟩, p, own⟩
  simp only [z7, xe, zb, z8, zn, zc, zo, ze, zd, List.set_cons_succ, List.set_cons_zero, O_mv, zm, yb, za, yj, xt]
  exact own.finish p
theorem zqn : ∀ (l : List Stm), (∀ rc gs, Stm.lets rc gs ∈ l → gs.length ≤ 8192) → (zc2 l).length ≤ l.length * 8192
  | [], _ => Nat.le_refl _
  | s :: l, h => by
    have := zqn l fun rc gs hm => h rc gs (by simp [hm])
    unfold zc2 at this ⊢
    rw [List.flatMap_cons, List.length_append]
    have h2 : s.given.length ≤ 8192 := by
      cases s with
      | lets rc gs => have := h rc gs (by simp); simpa [Stm.given, j8] using this
      | chk k x a => simp [Stm.given]
    rw [List.length_cons]; omega
def LtI (h : Heap) (l : List Stm) (ss : Value) (k : Nat) (st : St) : Prop := ∃ K sv, (∃ j : Nat → Value, st = ⟨[j 0, j 1, j 2, sv, j 4, j 5, j 6, j 7, j 8, j 9, j 10, ss, .int .i64 (l.length : Int), .int .i64 (k : Int), j 14, j 15, j 16, j 17, j 18, j 19, j 20, j 21, j 22, j 23, j 24, j 25, j 26, j 27, j 28, j 29, j 30, j 31, j 32, j 33, j 34, j 35, j 36, j 37], K⟩) ∧ Pre h K ∧ Own h K sv 2 ((zc2 (l.take k)).map wq)
def LtO (h : Heap) (l : List Stm) (st : St) : Prop := ∃ K sv, (∃ j : Nat → Value, st = ⟨[j 0, j 1, j 2, sv, j 4, j 5, j 6, j 7, j 8, j 9, j 10, j 11, j 12, j 13, j 14, j 15, j 16, j 17, j 18, j 19, j 20, j 21, j 22, j 23, j 24, j 25, j 26, j 27, j 28, j 29, j 30, j 31, j 32, j 33, j 34, j 35, j 36, j 37], K⟩) ∧ Pre h K ∧ Own h K sv 2 ((zc2 l).map wq)
def LgI (h : Heap) (l : List Stm) (ss : Value) (k : Nat) (gs : List Gv) (s : Value) (i : Nat) (st : St) : Prop := ∃ K sv, (∃ j : Nat → Value, st = ⟨[j 0, j 1, j 2, sv, j 4, j 5, j 6, j 7, j 8, j 9, j 10, ss, .int .i64 (l.length : Int), .int .i64 (k : Int), j 14, j 15, j 16, j 17, s, .int .i64 (gs.length : Int), .int .i64 (i : Int), j 21, j 22, j 23, j 24, j 25, j 26, j 27, j 28, j 29, j 30, j 31, j 32, j 33, j 34, j 35, j 36, j 37], K⟩) ∧ Pre h K ∧ Own h K sv 2 ((zc2 (l.take k) ++ j8 (gs.take i)).map wq)
def LgO (h : Heap) (l : List Stm) (ss : Value) (k : Nat) (gs : List Gv) (st : St) : Prop := ∃ K sv, (∃ j : Nat → Value, st = ⟨[j 0, j 1, j 2, sv, j 4, j 5, j 6, j 7, j 8, j 9, j 10, ss, .int .i64 (l.length : Int), .int .i64 (k : Int), j 14, j 15, j 16, j 17, j 18, j 19, j 20, j 21, j 22, j 23, j 24, j 25, j 26, j 27, j 28, j 29, j 30, j 31, j 32, j 33, j 34, j 35, j 36, j 37], K⟩) ∧ Pre h K ∧ Own h K sv 2 ((zc2 (l.take k) ++ j8 gs).map wq)
theorem zwe (d : Bys × Bool) : w4 [str [], .bool false] [(0, 2, agg [str d.1, .bool d.2])] = some [str d.1, .bool d.2] := by
  rw [w4, yh]
  simp [splice, yz]
set_option maxHeartbeats 8000000 in
theorem zi8 {h : Heap} {S : Nat → Prop} {mb : Nat} {md : Md} (M : ModP h S mb md) :
    ∃ v h', DF FF bd [pt mb] h = some (v, h') ∧ (Own h h' v 2 ((zc2 md.l).map wq) ∧ Pre h h') := by
  obtain ⟨⟨ks, ss, rows, T, hm, hk, hs, sp, _⟩, _, hlen⟩ := M
  refine wz zkf ?_
  have lens : ∀ K, lenO K ss = some (.int .i64 (md.l.length : Int), K) := fun K => by rw [hs.len, (sp.len).1]
  have rm : ∀ j, Heap.read1 h ⟨mb, j, some 0⟩ = ([ks, ss] : List Value)[j]? := fun j => we hm
  simp only [zfg, z7, zb, z8, zn, zc, zo, zf, ze, zd, List.set_cons_succ, List.set_cons_zero, O_mv, yg, j7, zz, zk, List.cons_append, List.nil_append, List.length_cons, List.length_nil, Nat.reduceSub, Nat.zero_add, zm, yb, zx, za, xc, z6, zq, zj, zh, zg, List.getElem?_cons_zero, List.getElem?_cons_succ, yi, rm, lens]
  refine bk 0 md.l.length (LtI h md.l ss) (LtO h md.l) ?_ ?_ _ ⟨h, _, junk rfl, Pre.refl _, Own.nil _ _ _⟩ ?_
  · rintro k st hk' ⟨K, sv, ⟨j, rfl⟩, p, own⟩
    have hd : md.l[k]? = some md.l[k] := List.getElem?_eq_getElem hk'
    obtain ⟨row, b', o, v, Tk, h4, h3, a1, a2, sk⟩ := ydz hs sp p hd
    have hl : ((k : Int) < (md.l.length : Int)) = True := by simp; omega
    obtain ⟨s, hss⟩ : ∃ s, s = md.l[k] := ⟨_, rfl⟩
    rw [← hss] at sk hd h3
    have hgl : (zc2 (md.l.take k)).length ≤ k * 8192 := by
      have := zqn (md.l.take k) fun rc gs hm => hlen.2.2 rc gs (List.mem_of_mem_take hm)
      have h2 : (md.l.take k).length = k := by simp; omega
      rwa [h2] at this
    have hk8 := hlen.1
    cases s with
    | chk c x a =>
      obtain ⟨v', rfl, t⟩ := sk
      simp only [z7, zr, w6, yl, zb, zw, zu, z8, zn, zc, zp, zo, zf, ze, zd, List.set_cons_succ, List.set_cons_zero, O_mv, yu, yg, j7, vh, zz, zk, x7, y8, vj, xy, List.length_cons, List.length_nil, Nat.reduceAdd, Nat.zero_add, zm, yb, zx, za, yx, zi, yj, y0, xc, z6, zl, y4, ya, yy, yq, yk, zy, zs, Option.map_some, List.getElem?_cons_zero, List.getElem?_cons_succ, Int.reduceLT, eq_self, yp, decide_true, decide_false, hl, a1, a2, zem, zfe, xm (k := k) (by omega)]
      exact ⟨_, sv, junk rfl, p.more _, by unfold zc2; rw [zdd hd]; simpa [Stm.given, zc2] using own.more _⟩
    | lets rc gs =>
      obtain ⟨s, vs, S', rfl, hsg, G, _⟩ := sk
      have hg8 : gs.length ≤ 8192 := hlen.2.2 rc gs (List.mem_of_getElem? hd)
      have lens2 : ∀ K, lenO K s = some (.int .i64 (gs.length : Int), K) := fun K => by rw [hsg.len, zep G.len]
      simp only [z7, zr, yl, zb, zw, z8, zn, zc, zp, zo, zf, ze, zd, List.set_cons_succ, List.set_cons_zero, O_mv, yu, yg, j7, vh, zz, zk, x7, y8, xy, List.length_cons, List.length_nil, Nat.reduceAdd, Nat.zero_add, zm, yb, zx, za, y0, xc, z6, zl, y4, ya, yy, yq, yk, zy, zs, Option.map_some, List.getElem?_cons_zero, List.getElem?_cons_succ, eq_self, decide_true, hl, a1, a2, lens2]
      refine bk 2 gs.length (LgI h md.l ss k gs s) (LgO h md.l ss k gs) ?_ ?_ _ ⟨_, sv, junk rfl, p.more _, by simpa [j8] using own.more _⟩ ?_
      · rintro i st hi ⟨K, sv, ⟨j, rfl⟩, p, own⟩
        have hg : gs[i]? = some gs[i] := List.getElem?_eq_getElem hi
        obtain ⟨b, S'', b', o, v, a1, a2, t⟩ := zyk (km := h.length) hsg G ⟨fun b l n ro hb => p.kept b _ hb, fun b o hb _ => p.kept b o hb, p.le⟩ hg
        obtain ⟨b0, op, w0, l0, r0, hb0, _, hbo⟩ := t.root
        have hb0 : b = b0 := by simpa using hb0
        subst hb0
        have rb : ∀ L j, Heap.read1 (K ++ L) ⟨b, j, some 0⟩ = (vd op w0 gs[i].e.pl l0 r0 gs[i].e.set)[j]? := fun L j => we (xa L hbo)
        have h1 : ((i : Int) < (gs.length : Int)) = True := by simp; omega
        have hroom : (((zc2 (md.l.take k) ++ j8 (gs.take i)).map wq).length + 1) * 24 ≤ k8 := by
          rw [List.length_map, List.length_append]
          have h2 : (j8 (gs.take i)).length ≤ i := by simp [j8]; omega
          unfold k8; omega
        obtain ⟨s', K2, p1, p2, p3, p4, p5, p6⟩ := (own.more [.cells (v7 gs[i] (pt b)) 0 false]).push (p.more _) (row := wq (gs[i].name, gs[i].e.set)) (bytes := 24) rfl hroom
        rw [List.append_assoc, List.length_append] at p1
        have p1' : kh (K ++ [AObj.cells (v7 gs[i] (pt b)) 0 false, AObj.cells [str gs[i].name, .bool gs[i].e.set] 0 false]) 2 24 sv (zc9 (K ++ [AObj.cells (v7 gs[i] (pt b)) 0 false, AObj.cells [str gs[i].name, .bool gs[i].e.set] 0 false]) 2 (.slice (some ⟨K.length + 1, 0, some 0⟩) 1 2)) = some (s', K2) := p1
        simp only [z7, zr, yl, zb, zw, z8, zn, zc, zp, zo, zf, ze, zd, List.set_cons_succ, List.set_cons_zero, O_mv, yu, yg, vh, zz, zk, x7, y8, ww, wg, wd, y9, yc, yd, xb, xi, yz, ba, Nat.lt_add_one, Nat.zero_lt_succ, vj, xy, List.cons_append, List.nil_append, List.length_cons, List.length_nil, Nat.reduceAdd, Nat.zero_add, zm, yb, zx, za, zi, slc, qv, y0, xc, z6, zl, y4, ya, zq, zj, yy, yq, yk, zy, zs, List.append_assoc, List.length_append, List.append_nil, Nat.add_zero, Option.map_some, eq_self, yp, wo, decide_true, h1, a1, a2, ge, zge, zeq, rb, zb1, zwe (gs[i].name, gs[i].e.set), p1', xm (k := i) (by omega)]
        refine ⟨K2, s', junk rfl, p3, ?_⟩
        have e : j8 (gs.take (i + 1)) = j8 (gs.take i) ++ [(gs[i].name, gs[i].e.set)] := zva hg _
        rw [e, ← List.append_assoc, List.map_append]
        exact p2
      · rintro st ⟨K, sv, ⟨j, rfl⟩, p, own⟩
        have h1 : ((gs.length : Int) < (gs.length : Int)) = False := by simp
        simp only [z7, zr, w6, zb, zu, z8, zn, zc, zo, ze, zd, List.set_cons_succ, List.set_cons_zero, yu, yg, xy, zm, yb, za, yx, gj, xj, decide_false, h1, gj]
        rw [List.take_length] at own
        exact ⟨K, sv, junk rfl, p, own⟩
      rintro st ⟨K, sv, ⟨j, rfl⟩, p, own⟩
      simp only [z7, zb, z8, zn, zc, zo, zf, ze, zd, List.set_cons_succ, List.set_cons_zero, O_mv, yu, yg, vj, zm, za, zi, yj, yp, xm (k := k) (by omega)]
      exact ⟨K, sv, junk rfl, p, by unfold zc2; rw [zdd hd]; exact own⟩
  · rintro st ⟨K, sv, ⟨j, rfl⟩, p, own⟩
    have hl : ((md.l.length : Int) < (md.l.length : Int)) = False := by simp
    simp only [z7, zr, w6, zb, zu, z8, zn, zc, zo, ze, zd, List.set_cons_succ, List.set_cons_zero, yu, yg, xy, zm, yb, za, yx, gj, xj, decide_false, hl, gj]
    rw [List.take_length] at own
    exact ⟨K, sv, junk rfl, p, own⟩
  rintro st ⟨K, sv, ⟨j, rfl⟩, p, own⟩
  simp only [z7, xe, zb, z8, zn, zc, zo, ze, zd, List.set_cons_succ, List.set_cons_zero, O_mv, zm, yb, za, yj, xt]
  exact own.finish p
theorem zlr {α : Type} {p q : α → Bool} : ∀ {l : List α}, (∀ x ∈ l, p x = true → q x = true) → (l.filter p).length ≤ (l.filter q).length
  | [], _ => Nat.le_refl _
  | x :: l, h => by
    have ih := zlr (l := l) fun y hy => h y (by simp [hy])
    have h0 := h x (by simp)
    rw [List.filter_cons, List.filter_cons]
    cases hp : p x
    · cases q x <;> simp <;> omega
    · rw [h0 hp]; simp; exact ih
theorem zqj {α : Type} {p q : α → Bool} : ∀ {l : List α}, (∀ x ∈ l, p x = true → q x = true) → (∃ x ∈ l, q x = true ∧ p x = false) → (l.filter p).length < (l.filter q).length
  | [], _, e => by obtain ⟨x, hx, _⟩ := e; cases hx
  | x :: l, h, e => by
    have hl : ∀ y ∈ l, p y = true → q y = true := fun y hy => h y (by simp [hy])
    have h0 := h x (by simp)
    rw [List.filter_cons, List.filter_cons]
    obtain ⟨y, hy, hq, hp⟩ := e
    rcases List.mem_cons.1 hy with rfl | hy
    · rw [hq, hp]
      have := zlr hl
      simp; omega
    · have ih := zqj hl ⟨y, hy, hq, hp⟩
      cases hp : p x
      · cases q x <;> simp <;> omega
      · rw [h0 hp]; simp; exact ih
def cntR (r : Nat → U) : Nat := ((List.range 1024).filter fun k => (r (k / 32)).getLsbD (k % 32)).length
theorem ye7 (r : Nat → U) : cntR r ≤ 1024 := by
  have := List.length_filter_le (fun k => (r (k / 32)).getLsbD (k % 32)) (List.range 1024)
  rwa [List.length_range] at this
theorem yab {a b : Nat → U} (h : leR a b) : cntR a ≤ cntR b := zlr fun k hk x => h _ _ (by have := List.mem_range.1 hk; omega) (Nat.mod_lt _ (by decide)) x
theorem yff {a b : Nat → U} (h : leR a b) (n : zpm a b = false) : cntR a < cntR b := by
  refine zqj (fun k hk x => h _ _ (by have := List.mem_range.1 hk; omega) (Nat.mod_lt _ (by decide)) x) ?_
  apply Classical.byContradiction
  intro hn
  have : zpm a b = true := yet fun i j hi hj => ⟨h i j hi hj, fun hb => by
    apply Classical.byContradiction
    intro ha
    refine hn ⟨i * 32 + j, List.mem_range.2 (by omega), ?_, ?_⟩
    · rw [show (i * 32 + j) / 32 = i by omega, show (i * 32 + j) % 32 = j by omega]; exact hb
    · rw [show (i * 32 + j) / 32 = i by omega, show (i * 32 + j) % 32 = j by omega]; simpa using ha⟩
  rw [this] at n; cases n
def cntE (env : En) (w : Bys) : Nat := match bv w env with
  | some (_, v) => cntR v.r
  | none => 0
theorem ye6 (env : En) (w : Bys) : cntE env w ≤ 1024 := by
  unfold cntE; split
  · exact ye7 _
  · exact Nat.zero_le _
theorem zqq {rc : List Bys} {env env' : En} (L : LeE rc env env') (w : Bys) : cntE env w ≤ cntE env' w := by
  unfold cntE
  rcases L w with ⟨h1, h2⟩ | ⟨b, v, v', h1, h2, h3, h4, h5⟩
  · rw [h1, h2]; exact Nat.le_refl _
  · rw [h1, h2]; exact yab h4
def sumE (env : En) (gs : List Gv) : Nat := (gs.map fun g => cntE env g.name).sum
theorem zxo (env : En) : ∀ gs : List Gv, sumE env gs ≤ gs.length * 1024
  | [] => Nat.le_refl _
  | g :: gs => by
    have := zxo env gs
    have h := ye6 env g.name
    unfold sumE at this ⊢
    simp only [List.map_cons, List.sum_cons, List.length_cons]; omega
theorem zij {rc : List Bys} {env env' : En} (L : LeE rc env env') : ∀ gs : List Gv, sumE env gs ≤ sumE env' gs
  | [] => Nat.le_refl _
  | g :: gs => by
    have := zij L gs
    have h := zqq L g.name
    unfold sumE at this ⊢
    simp only [List.map_cons, List.sum_cons]; omega
theorem zxa {rc : List Bys} {env env' : En} (L : LeE rc env env') : ∀ {gs : List Gv} {g : Gv}, g ∈ gs → cntE env g.name < cntE env' g.name → sumE env gs < sumE env' gs
  | x :: gs, g, hg, h => by
    have m := zij L gs
    have hx := zqq L x.name
    rcases List.mem_cons.1 hg with rfl | hg
    · unfold sumE at m ⊢
      simp only [List.map_cons, List.sum_cons]; omega
    · have := zxa L hg h
      unfold sumE at this ⊢
      simp only [List.map_cons, List.sum_cons]; omega
structure RecG (kn : Kn) (rc : List Bys) (gs : List Gv) : Prop where
  ty : ∀ g ∈ gs, Typ kn g.e
  st : ∀ g ∈ gs, g.e.set = false
  nr : ∀ g ∈ gs, NoR rc false g.e
  mem : ∀ g ∈ gs, g.name ∈ rc
  inj : ∀ g ∈ gs, ∀ g' ∈ gs, g.name = g'.name → g = g'
structure RecI (u : U) (kn : Kn) (gs : List Gv) (env : En) : Prop where
  kd : KdOk kn env
  z : S0 env
  at_ : ∀ g ∈ gs, ∃ v, bv g.name env = some (false, v) ∧ leR v.r (evE u env g.e).r
theorem yco {u : U} {kn : Kn} {rc : List Bys} {gs : List Gv} (G : RecG kn rc gs) {env : En} (I : RecI u kn gs env) {g : Gv} (hg : g ∈ gs) :
    RecI u kn gs (setE g.name g.e.set (evE u env g.e) env) ∧ LeE rc env (setE g.name g.e.set (evE u env g.e) env) ∧ (chg (bv g.name env) g.e.set (evE u env g.e) = true → sumE env gs < sumE (setE g.name g.e.set (evE u env g.e) env) gs) := by
  rw [G.st g hg]
  obtain ⟨v, hv, hle⟩ := I.at_ g hg
  have s0 : (evE u env g.e).s = 0#32 := zp5 I.kd I.z (G.ty g hg) (G.st g hg)
  have v0 : v.s = 0#32 := I.z _ _ hv
  have L : LeE rc env (setE g.name false (evE u env g.e) env) := fun w => by
    rw [pa]
    by_cases hw : w = g.name
    · subst hw
      rw [if_pos (by simp)]
      exact .inr ⟨false, v, _, hv, rfl, v0.trans s0.symm, hle, fun h => absurd (G.mem g hg) h⟩
    · rw [if_neg (by simpa using hw)]
      cases h : bv w env with
      | none => exact .inl ⟨rfl, rfl⟩
      | some p => exact .inr ⟨p.1, p.2, p.2, rfl, rfl, rfl, leR.refl _, fun _ => leR.refl _⟩
  refine ⟨⟨fun w => ?_, fun w x h => ?_, fun k hk => ?_⟩, L, fun hc => ?_⟩
  · rw [pa]
    by_cases hw : w = g.name
    · subst hw
      rw [if_pos (by simp), ← I.kd, hv]; rfl
    · rw [if_neg (by simpa using hw)]; exact I.kd w
  · rw [pa] at h
    by_cases hw : w = g.name
    · subst hw
      rw [if_pos (by simp)] at h
      cases h; exact s0
    · rw [if_neg (by simpa using hw)] at h; exact I.z w x h
  · obtain ⟨m1, m2, m3⟩ := zgh u L k.e false (G.nr k hk)
    rw [pa]
    by_cases hw : k.name = g.name
    · have := G.inj k hk g hg hw
      subst this
      rw [if_pos (by simp)]
      exact ⟨_, rfl, m2⟩
    · rw [if_neg (by simpa using hw)]
      obtain ⟨x, hx, hl⟩ := I.at_ k hk
      exact ⟨x, hx, hl.trans m2⟩
  · refine zxa L hg ?_
    unfold cntE
    rw [pa, if_pos (by simp), hv]
    simp only
    refine yff hle ?_
    rw [hv] at hc
    simp only [chg, zyf, v0, s0] at hc
    simpa using hc
theorem zib {u : U} {kn : Kn} {rc : List Bys} {gs : List Gv} (G : RecG kn rc gs) : ∀ (l : List Gv) (p : En × Bool), (∀ g ∈ l, g ∈ gs) → RecI u kn gs p.1 →
    RecI u kn gs (l.foldl (zh5 u) p).1 ∧ LeE rc p.1 (l.foldl (zh5 u) p).1 ∧ (p.2 = false → (l.foldl (zh5 u) p).2 = true → sumE p.1 gs < sumE (l.foldl (zh5 u) p).1 gs)
  | [], p, _, I => ⟨I, LeE.refl _ _, fun h h2 => by rw [List.foldl_nil, h] at h2; cases h2⟩
  | g :: l, p, hl, I => by
    obtain ⟨I1, L1, c1⟩ := yco G I (hl g (by simp))
    obtain ⟨I2, L2, c2⟩ := zib G l (zh5 u p g) (fun k hk => hl k (by simp [hk])) I1
    rw [List.foldl_cons]
    refine ⟨I2, L1.trans L2, fun h h2 => ?_⟩
    cases hc : chg (bv g.name p.1) g.e.set (evE u p.1 g.e)
    · have := c2 (by simp [zh5, h, hc]) h2
      exact Nat.lt_of_le_of_lt (zij L1 gs) this
    · exact Nat.lt_of_lt_of_le (c1 hc) (zij L2 gs)
theorem zu8 {u : U} {kn : Kn} {rc : List Bys} {gs : List Gv} (G : RecG kn rc gs) : ∀ (n : Nat) (env : En), RecI u kn gs env → gs.length * 1024 < sumE env gs + n → Ends u gs n env
  | 0, env, I, h => by have := zxo env gs; omega
  | n + 1, env, I, h => by
    obtain ⟨I2, L2, c2⟩ := zib G gs (env, false) (fun g hg => hg) I
    rw [Ends]
    cases hc : (zb8 u gs env).2
    · exact .inl rfl
    · refine .inr ⟨rfl, zu8 G n _ I2 ?_⟩
      have := c2 rfl hc
      show _ < sumE (zb8 u gs env).1 gs + n
      unfold zb8 at *
      simp only at this
      omega
theorem zyi {u : U} {kn : Kn} {rc : List Bys} {gs : List Gv} (G : RecG kn rc gs) : ∀ (n : Nat) (env : En), RecI u kn gs env → RecI u kn gs (recN u gs n env) ∧ LeE rc env (recN u gs n env)
  | 0, env, I => ⟨I, LeE.refl _ _⟩
  | n + 1, env, I => by
    obtain ⟨I2, L2, c2⟩ := zib G gs (env, false) (fun g hg => hg) I
    rw [recN]
    split
    · obtain ⟨I3, L3⟩ := zyi G n (zb8 u gs env).1 I2
      exact ⟨I3, LeE.trans L2 L3⟩
    · exact ⟨I2, L2⟩
theorem ybx {u : U} {kn kn' : Kn} {gs : List Gv} {env : En} (k : KdOk kn env) (z : S0 env) (hk : ∀ w, ji kn' w = if gs.any (fun g => w == g.name) then some false else ji kn w) : RecI u kn' gs (zbd gs env) := by
  have key : ∀ (l : List Gv) (en : En) (w : Bys), bv w (l.foldl (fun en g => setE g.name false v0 en) en) = if l.any (fun g => w == g.name) then some (false, v0) else bv w en := by
    intro l
    induction l with
    | nil => intro en w; rfl
    | cons g l ih =>
      intro en w
      rw [List.foldl_cons, ih, pa, List.any_cons]
      cases h1 : w == g.name <;> cases h2 : l.any (fun g => w == g.name) <;> simp
  refine ⟨fun w => ?_, fun w v h => ?_, fun g hg => ⟨v0, ?_, ycu _⟩⟩
  · rw [zbd, key, hk]
    split
    · rfl
    · exact k w
  · rw [zbd, key] at h
    split at h
    · cases h; rfl
    · exact z w v h
  · rw [zbd, key, if_pos]
    exact List.any_eq_true.2 ⟨g, hg, by simp⟩
def zrE (env : En) (gs : List Gv) (k : Nat) : En := (gs.take k).foldl (fun en g => setE g.name false v0 en) env
def rdE (u : U) (en : En) (gs : List Gv) (k : Nat) : En × Bool := (gs.take k).foldl (zh5 u) (en, false)
def ZrI (h h0 : Heap) (q km : Nat) (u : U) (env : En) (gs : List Gv) (s : Value) (k : Nat) (st : St) : Prop := ∃ K, (∃ j : Nat → Value, st = ⟨[pt q, j 1, j 2, pt h.length, j 4, j 5, j 6, j 7, j 8, j 9, j 10, j 11, j 12, j 13, j 14, j 15, j 16, j 17, j 18, j 19, j 20, j 21, j 22, j 23, j 24, j 25, j 26, j 27, j 28, j 29, j 30, j 31, j 32, j 33, j 34, j 35, j 36, j 37, j 38, j 39, j 40, j 41, j 42, j 43, j 44, j 45, j 46, j 47, j 48, j 49, j 50, j 51, j 52, j 53, j 54, s, .int .i64 (gs.length : Int), .int .i64 (k : Int), j 58, j 59, j 60, j 61, j 62, j 63, j 64, j 65, j 66, j 67, j 68, j 69, j 70, j 71, j 72, j 73, j 74, j 75, j 76, j 77, j 78, j 79, j 80, j 81, j 82, j 83, j 84, j 85, j 86, j 87, j 88, j 89, j 90, j 91, j 92, j 93, j 94, j 95, j 96, j 97, j 98, j 99, j 100, j 101, j 102, j 103, j 104, j 105, j 106, j 107, j 108, j 109, j 110, j 111, j 112, j 113, j 114, j 115, j 116], K⟩) ∧ Wd K q km u (zrE env gs k) ∧ KC km h0 K
def ZrO (h h0 : Heap) (q km : Nat) (u : U) (env : En) (gs : List Gv) (st : St) : Prop := ∃ K, (∃ j : Nat → Value, st = ⟨[pt q, j 1, j 2, pt h.length, j 4, j 5, j 6, j 7, j 8, j 9, j 10, j 11, j 12, j 13, j 14, j 15, j 16, j 17, j 18, j 19, j 20, j 21, j 22, j 23, j 24, j 25, j 26, j 27, j 28, j 29, j 30, j 31, j 32, j 33, j 34, j 35, j 36, j 37, j 38, j 39, j 40, j 41, j 42, j 43, j 44, j 45, j 46, j 47, j 48, j 49, j 50, j 51, j 52, j 53, j 54, j 55, j 56, j 57, j 58, j 59, j 60, j 61, j 62, j 63, j 64, j 65, j 66, j 67, j 68, j 69, j 70, j 71, j 72, j 73, j 74, j 75, j 76, j 77, j 78, j 79, j 80, j 81, j 82, j 83, j 84, j 85, j 86, j 87, j 88, j 89, j 90, j 91, j 92, j 93, j 94, j 95, j 96, j 97, j 98, j 99, j 100, j 101, j 102, j 103, j 104, j 105, j 106, j 107, j 108, j 109, j 110, j 111, j 112, j 113, j 114, j 115, j 116], K⟩) ∧ Wd K q km u (zbd gs env) ∧ KC km h0 K
def WlI (h h0 : Heap) (q km : Nat) (u : U) (kn : Kn) (gs : List Gv) (fin : En) (m : Nat) (st : St) : Prop := ∃ K en c, (∃ j : Nat → Value, st = ⟨[pt q, j 1, j 2, pt h.length, j 4, j 5, j 6, j 7, j 8, j 9, j 10, j 11, .bool c, j 13, j 14, j 15, j 16, j 17, j 18, j 19, j 20, j 21, j 22, j 23, j 24, j 25, j 26, j 27, j 28, j 29, j 30, j 31, j 32, j 33, j 34, j 35, j 36, j 37, j 38, j 39, j 40, j 41, j 42, j 43, j 44, j 45, j 46, j 47, j 48, j 49, j 50, j 51, j 52, j 53, j 54, j 55, j 56, j 57, j 58, j 59, j 60, j 61, j 62, j 63, j 64, j 65, j 66, j 67, j 68, j 69, j 70, j 71, j 72, j 73, j 74, j 75, j 76, j 77, j 78, j 79, j 80, j 81, j 82, j 83, j 84, j 85, j 86, j 87, j 88, j 89, j 90, j 91, j 92, j 93, j 94, j 95, j 96, j 97, j 98, j 99, j 100, j 101, j 102, j 103, j 104, j 105, j 106, j 107, j 108, j 109, j 110, j 111, j 112, j 113, j 114, j 115, j 116], K⟩) ∧ Wd K q km u en ∧ KC km h0 K ∧ RecI u kn gs en ∧ ((c = true ∧ ∃ n, m = n + 1 ∧ Ends u gs n en ∧ recN u gs n en = fin) ∨ (c = false ∧ en = fin))
def WlO (h0 : Heap) (q km : Nat) (u : U) (fin : En) (st : St) : Prop := ∃ K, (∃ j : Nat → Value, st = ⟨[j 0, j 1, j 2, j 3, j 4, j 5, j 6, j 7, j 8, j 9, j 10, j 11, j 12, j 13, j 14, j 15, j 16, j 17, j 18, j 19, j 20, j 21, j 22, j 23, j 24, j 25, j 26, j 27, j 28, j 29, j 30, j 31, j 32, j 33, j 34, j 35, j 36, j 37, j 38, j 39, j 40, j 41, j 42, j 43, j 44, j 45, j 46, j 47, j 48, j 49, j 50, j 51, j 52, j 53, j 54, j 55, j 56, j 57, j 58, j 59, j 60, j 61, j 62, j 63, j 64, j 65, j 66, j 67, j 68, j 69, j 70, j 71, j 72, j 73, j 74, j 75, j 76, j 77, j 78, j 79, j 80, j 81, j 82, j 83, j 84, j 85, j 86, j 87, j 88, j 89, j 90, j 91, j 92, j 93, j 94, j 95, j 96, j 97, j 98, j 99, j 100, j 101, j 102, j 103, j 104, j 105, j 106, j 107, j 108, j 109, j 110, j 111, j 112, j 113, j 114, j 115, j 116], K⟩) ∧ Wd K q km u fin ∧ KC km h0 K
def RdI (h h0 : Heap) (q km : Nat) (u : U) (en : En) (gs : List Gv) (s : Value) (k : Nat) (st : St) : Prop := ∃ K, (∃ j : Nat → Value, st = ⟨[pt q, j 1, j 2, pt h.length, j 4, j 5, j 6, j 7, j 8, j 9, j 10, j 11, .bool (rdE u en gs k).2, j 13, j 14, j 15, j 16, j 17, j 18, j 19, j 20, j 21, j 22, j 23, j 24, j 25, j 26, j 27, j 28, j 29, j 30, j 31, j 32, j 33, j 34, j 35, j 36, j 37, j 38, j 39, j 40, j 41, j 42, j 43, j 44, j 45, j 46, j 47, j 48, j 49, j 50, j 51, j 52, j 53, j 54, j 55, j 56, j 57, j 58, j 59, j 60, j 61, j 62, j 63, j 64, j 65, j 66, j 67, j 68, s, .int .i64 (gs.length : Int), .int .i64 (k : Int), j 72, j 73, j 74, j 75, j 76, j 77, j 78, j 79, j 80, j 81, j 82, j 83, j 84, j 85, j 86, j 87, j 88, j 89, j 90, j 91, j 92, j 93, j 94, j 95, j 96, j 97, j 98, j 99, j 100, j 101, j 102, j 103, j 104, j 105, j 106, j 107, j 108, j 109, j 110, j 111, j 112, j 113, j 114, j 115, j 116], K⟩) ∧ Wd K q km u (rdE u en gs k).1 ∧ KC km h0 K
def RdO (h h0 : Heap) (q km : Nat) (u : U) (en : En) (gs : List Gv) (st : St) : Prop := ∃ K, (∃ j : Nat → Value, st = ⟨[pt q, j 1, j 2, pt h.length, j 4, j 5, j 6, j 7, j 8, j 9, j 10, j 11, .bool (zb8 u gs en).2, j 13, j 14, j 15, j 16, j 17, j 18, j 19, j 20, j 21, j 22, j 23, j 24, j 25, j 26, j 27, j 28, j 29, j 30, j 31, j 32, j 33, j 34, j 35, j 36, j 37, j 38, j 39, j 40, j 41, j 42, j 43, j 44, j 45, j 46, j 47, j 48, j 49, j 50, j 51, j 52, j 53, j 54, j 55, j 56, j 57, j 58, j 59, j 60, j 61, j 62, j 63, j 64, j 65, j 66, j 67, j 68, j 69, j 70, j 71, j 72, j 73, j 74, j 75, j 76, j 77, j 78, j 79, j 80, j 81, j 82, j 83, j 84, j 85, j 86, j 87, j 88, j 89, j 90, j 91, j 92, j 93, j 94, j 95, j 96, j 97, j 98, j 99, j 100, j 101, j 102, j 103, j 104, j 105, j 106, j 107, j 108, j 109, j 110, j 111, j 112, j 113, j 114, j 115, j 116], K⟩) ∧ Wd K q km u (zb8 u gs en).1 ∧ KC km h0 K
theorem yev {h0 K : Heap} {q km : Nat} {u : U} {kn : Kn} {rc : List Bys} {en : En} {gs : List Gv} (G : RecG kn rc gs) (I : RecI u kn gs en) {k : Nat} (w : Wd K q km u (rdE u en gs k).1) (kc : KC km h0 K) {g : Gv} (hg : gs[k]? = some g) {b : Nat} {S' : Nat → Prop} (t : TreeP K S' (pt b) g.e) :
    ∃ c row K2, DF FF vr [pt q, pt b] (K ++ [.cells (v7 g (pt b)) 0 false]) = some (agg row, K ++ [.cells (v7 g (pt b)) 0 false]) ∧ DF FF jt [pt q, str g.name, agg row] (K ++ [.cells (v7 g (pt b)) 0 false]) = some (.bool c, K2) ∧ Wd K2 q km u (rdE u en gs (k + 1)).1 ∧ KC km h0 K2 ∧ (rdE u en gs (k + 1)).2 = ((rdE u en gs k).2 || c) := by
  obtain ⟨I2, _, _⟩ := zib G (gs.take k) (en, false) (fun g hg => List.mem_of_mem_take hg) I
  have hm : g ∈ gs := List.mem_of_getElem? hg
  obtain ⟨v, hv, _⟩ := I2.at_ g hm
  have hkd : kdE (rdE u en gs k).1 g.e = g.e.set := zsb I2.kd (G.ty g hm)
  obtain ⟨c, K2, q1, w2, k2, hc⟩ := zw5 (w.more [.cells (v7 g (pt b)) 0 false]) g.name (nmE (rdE u en gs k).1 g.e) (kdE (rdE u en gs k).1 g.e) (evE u (rdE u en gs k).1 g.e)
  rw [hkd] at w2
  have e : rdE u en gs (k + 1) = zh5 u (rdE u en gs k) g := zam hg _ _
  refine ⟨c, _, K2, zfw u _ g.e _ q km S' (pt b) (w.more _) (t.keep fun _ _ _ ho => xa _ ho), q1, by rw [e]; exact w2, (kc.trans (KC.more _ _)).trans k2, ?_⟩
  rw [e, hc _ hv, hkd]
  show (_ || chg (bv g.name (rdE u en gs k).1) _ _) = _
  rw [show bv g.name (rdE u en gs k).1 = some (false, v) from hv]
set_option maxHeartbeats 8000000 in
theorem ya1 {h : Heap} {q km : Nat} {u : U} {env : En} {kn : Kn} {rc : List Bys} {S : Nat → Prop} {vs : List Value} {s : Value} {gs : List Gv} (W : Wd h q km u env) (hs : Sl h s 3 (List.zipWith v7 gs vs)) (G : GsP h S vs gs) (hl : gs.length ≤ 8192) (GG : RecG kn rc gs) (I0 : RecI u kn gs (zbd gs env)) :
    ∃ h', DF FF ja [pt q, agg [str wRec, s, nilP, str []]] h = some (.bool true, h') ∧ Wd h' q km u (recN u gs (recK gs) (zbd gs env)) ∧ KC km h h' := by
  have : ∃ v h', DF FF ja [pt q, agg [str wRec, s, nilP, str []]] h = some (v, h') ∧ (v = .bool true ∧ Wd h' q km u (recN u gs (recK gs) (zbd gs env)) ∧ KC km h h') := by
    refine wz zb4 ?_
    have lens : ∀ K, lenO K s = some (.int .i64 (gs.length : Int), K) := fun K => by rw [hs.len, zep G.len]
    obtain ⟨h0, hh0⟩ : ∃ h0, h0 = h ++ [AObj.cells [str [114, 101, 99], s, nilP, str []] 0 false] := ⟨_, rfl⟩
    have k0 : KC km h h0 := by rw [hh0]; exact KC.more _ _
    have W0 : Wd h0 q km u env := by rw [hh0]; exact W.more _
    have g0 : h0[h.length]? = some (.cells [str [114, 101, 99], s, nilP, str []] 0 false) := by rw [hh0]; simp
    have rg : ∀ K, KC km h0 K → ∀ j, Heap.read1 K ⟨h.length, j, some 0⟩ = ([str [114, 101, 99], s, nilP, str []] : List Value)[j]? := fun K kc j => we (kc.keep _ _ _ _ g0)
    have rg0 := rg h0 (KC.refl _)
    have hE : Ends u gs (recK gs) (zbd gs env) := zu8 GG _ _ I0 (by unfold recK; omega)
    obtain ⟨fin, hfin⟩ : ∃ fin, fin = recN u gs (recK gs) (zbd gs env) := ⟨_, rfl⟩
    rw [← hfin]
    simp only [k7, z7, zr, zb, zw, zu, z8, zn, zc, zo, zf, ze, zd, List.set_cons_succ, List.set_cons_zero, O_mv, yu, yg, j7, zz, zk, List.cons_append, List.nil_append, List.length_cons, List.length_nil, Nat.reduceAdd, Nat.reduceSub, Nat.zero_add, zm, yb, zx, za, w8, xc, z6, zh, zg, Nat.add_zero, List.getElem?_cons_zero, List.getElem?_cons_succ, beq_self_eq_true, eq_self, yh, zt, yi, w9, j2, wRec, yf0, yh, ← hh0, rg0, lens]
    refine bk 5 gs.length (ZrI h h0 q km u env gs s) (ZrO h h0 q km u env gs) ?_ ?_ _ ⟨h0, junk rfl, W0, KC.refl _⟩ ?_
    · rintro k st hk ⟨K, ⟨j, rfl⟩, w, kc⟩
      have hg : gs[k]? = some gs[k] := List.getElem?_eq_getElem hk
      obtain ⟨b, S', b', o, v, a1, a2, t⟩ := zyk hs G (k0.trans kc) hg
      obtain ⟨c, K2, q1, w2, k2, _⟩ := zw5 (w.more [.cells (v7 gs[k] (pt b)) 0 false]) gs[k].name [] false v0
      have h1 : ((k : Int) < (gs.length : Int)) = True := by simp; omega
      simp only [z7, zr, yl, zb, zw, z8, zn, zc, zp, zo, zf, ze, zd, List.set_cons_succ, List.set_cons_zero, O_mv, yu, yg, yf, List.map_cons, List.map_nil, vh, zz, zk, x7, y8, wg, y9, yc, yz, vj, xy, List.length_cons, List.length_nil, Nat.reduceAdd, Nat.zero_add, zm, yb, zx, za, zi, y0, xc, z6, zl, y4, ya, yy, yq, yk, zy, zs, Nat.add_zero, Option.map_some, eq_self, yp, decide_true, h1, a1, a2, ge, zge, q1, xm (k := k) (by omega)]
      exact ⟨K2, junk rfl, by rw [zrE, zam hg]; exact w2, (kc.trans (KC.more _ _)).trans k2⟩
    · rintro st ⟨K, ⟨j, rfl⟩, w, kc⟩
      have h1 : ((gs.length : Int) < (gs.length : Int)) = False := by simp
      simp only [z7, zr, w6, zb, zu, z8, zn, zc, zo, ze, zd, List.set_cons_succ, List.set_cons_zero, yu, yg, xy, zm, yb, za, yx, gj, xj, decide_false, h1, gj]
      rw [zrE, List.take_length] at w
      exact ⟨K, junk rfl, w, kc⟩
    rintro st ⟨K, ⟨j, rfl⟩, w, kc⟩
    simp only [z7, zb, z8, zn, zc, zf, List.set_cons_succ, List.set_cons_zero, O_mv, zm, yb, zx, za, yj]
    refine zt0 7 (WlI h h0 q km u kn gs fin) (WlO h0 q km u fin) ?_ (recK gs + 1) _ ⟨K, _, true, junk rfl, w, kc, I0, .inl ⟨rfl, _, rfl, hE, hfin.symm⟩⟩ ?_
    · rintro m st ⟨K, en, c, ⟨j, rfl⟩, w, kc, I, ⟨rfl, n, rfl, hE, hf⟩ | ⟨rfl, rfl⟩⟩
      · have rgK := rg K kc
        simp only [z7, zr, yl, zb, zw, z8, zn, zc, zo, zf, ze, zd, List.set_cons_succ, List.set_cons_zero, O_mv, yg, j7, zz, zk, Nat.zero_add, zm, yb, zx, za, xc, z6, List.getElem?_cons_zero, List.getElem?_cons_succ, rgK, lens]
        refine bk 9 gs.length (RdI h h0 q km u en gs s) (RdO h h0 q km u en gs) ?_ ?_ _ ⟨K, junk rfl, w, kc⟩ ?_
        · rintro k st hk ⟨K, ⟨j, rfl⟩, w, kc⟩
          have hg : gs[k]? = some gs[k] := List.getElem?_eq_getElem hk
          obtain ⟨b, S', b', o, v, a1, a2, t⟩ := zyk hs G (k0.trans kc) hg
          obtain ⟨c, row, K2, q1, q2, w2, k2, hc⟩ := yev GG I w kc hg t
          have h1 : ((k : Int) < (gs.length : Int)) = True := by simp; omega
          have ag : zb2 (K ++ [.cells (v7 gs[k] (pt b)) 0 false]) (.pointer (some ⟨K.length, 0, some 0⟩)) (str gs[k].name) = some (undef, K ++ [.cells (v7 gs[k] (pt b)) 0 false]) := zvp (by simp [Heap.read1, v7])
          cases c
          · simp only [z7, zr, yl, zb, zw, z8, zn, ye, zc, zp, yr, zo, zf, ze, zd, List.set_cons_succ, List.set_cons_zero, O_mv, yw, xf, yu, yg, yf, List.map_cons, List.map_nil, vh, zz, zk, x7, y8, vj, xy, List.length_cons, List.length_nil, Nat.reduceAdd, Nat.zero_add, zm, yb, zx, za, zi, y0, xc, z6, zl, y4, ya, yy, yq, yk, zy, zs, Nat.add_zero, Option.map_some, eq_self, zdb, yp, decide_true, h1, a1, a2, ge, zge, zeq, q1, ag, q2, xm (k := k) (by omega)]
            rw [Bool.or_false] at hc
            exact ⟨K2, by rw [hc]; exact junk rfl, w2, k2⟩
          · simp only [z7, zr, yl, zb, zw, z8, zn, ye, zc, zp, wi, zo, zf, ze, zd, List.set_cons_succ, List.set_cons_zero, O_mv, yw, xf, yu, yg, yf, List.map_cons, List.map_nil, vh, zz, zk, x7, y8, vj, xy, List.length_cons, List.length_nil, Nat.reduceAdd, Nat.zero_add, zm, yb, zx, za, zi, y0, xc, z6, zl, y4, ya, yy, yq, yk, zy, zs, Nat.add_zero, Option.map_some, eq_self, zdb, yp, decide_true, h1, a1, a2, ge, zge, zeq, q1, ag, q2, xm (k := k) (by omega)]
            rw [Bool.or_true] at hc
            exact ⟨K2, by rw [hc]; exact junk rfl, w2, k2⟩
        · rintro st ⟨K, ⟨j, rfl⟩, w, kc⟩
          have h1 : ((gs.length : Int) < (gs.length : Int)) = False := by simp
          simp only [z7, zr, w6, zb, zu, z8, zn, zc, zo, ze, zd, List.set_cons_succ, List.set_cons_zero, yu, yg, xy, zm, yb, za, yx, gj, xj, decide_false, h1, gj]
          have e : rdE u en gs gs.length = zb8 u gs en := by unfold rdE zb8; rw [List.take_length]
          rw [e] at w
          exact ⟨K, by rw [e]; exact junk rfl, w, kc⟩
        rintro st ⟨K, ⟨j, rfl⟩, w, kc⟩
        simp only [zi, yj, vq]
        obtain ⟨I2, _, _⟩ := zib GG gs (en, false) (fun g hg => hg) I
        cases n with
        | zero => exact hE.elim
        | succ n =>
          rw [Ends] at hE
          rw [recN] at hf
          rcases hE with hE | ⟨hE, hE2⟩
          · rw [if_neg (by rw [hE]; simp)] at hf
            exact ⟨0, by omega, K, _, _, junk rfl, w, kc, I2, .inr ⟨hE, hf⟩⟩
          · rw [if_pos hE] at hf
            exact ⟨n + 1, by omega, K, _, _, junk rfl, w, kc, I2, .inl ⟨hE, n, rfl, hE2, hf⟩⟩
      · simp only [z7, zr, w6, zb, zu, z8, zn, zc, zo, ze, zd, List.set_cons_succ, List.set_cons_zero, O_mv, zm, yb, za, yx, zag, gj, gj]
        exact ⟨K, junk rfl, w, kc⟩
    rintro st ⟨K, ⟨j, rfl⟩, w, kc⟩
    simp only [z7, xe, zb, z8, zn, zc, zf, ze, zd, List.set_cons_succ, List.set_cons_zero, O_mv, zm, yb, za, zi, yj, xt, eq_self]
    exact ⟨trivial, W.fin w _, (k0.trans kc).fin _⟩
  obtain ⟨v, h', hq, rfl, hw, hk⟩ := this
  exact ⟨h', hq, hw, hk⟩
/-- As it was looked at. -/
def zxq (kn : Kn) : Stm → Prop
  | .lets false gs => gs.length ≤ 8192 ∧ (∀ g ∈ gs, Typ kn g.e) ∧ (∀ g ∈ gs, ji kn g.name = none) ∧ (gs.map (·.name)).Nodup
  | .lets true gs => gs.length ≤ 8192 ∧ RecG (kn ++ gs.map fun g => (g.name, false)) (gs.map (·.name)) gs ∧ (∀ g ∈ gs, ji kn g.name = none) ∧ (gs.map (·.name)).Nodup
  | .chk _ x _ => Typ kn x
def zq3 : Kn → List Stm → Prop
  | _, [] => True
  | kn, s :: l => zxq kn s ∧ zq3 (kn ++ s.given) l
structure EnI (kn : Kn) (env : En) : Prop where
  kd : KdOk kn env
  z : S0 env
theorem zma {kn : Kn} : ∀ {gs : List Gv} {n : Nat} {here : List Bys}, py kn n here gs = .ok () → (∀ g ∈ gs, ji kn g.name = none ∧ g.name ∉ here) ∧ (gs.map (·.name)).Nodup
  | [], n, here, h => ⟨by simp, by simp⟩
  | g' :: gs, n, here, h => by
    rw [py] at h
    split at h
    · cases h
    · rename_i h1
      split at h
      · cases h
      · have h1 := Bool.not_eq_true _ |>.mp h1
        rw [Bool.or_eq_false_iff] at h1
        obtain ⟨a, b⟩ := zma h
        refine ⟨fun g hg => ?_, ?_⟩
        · rcases List.mem_cons.1 hg with rfl | hg
          · exact ⟨by simpa using h1.1, by simpa using h1.2⟩
          · exact ⟨(a g hg).1, fun hh => (a g hg).2 (by simp [hh])⟩
        · rw [List.map_cons, List.nodup_cons]
          refine ⟨fun hh => ?_, b⟩
          obtain ⟨g, hg, he⟩ := List.mem_map.1 hh
          exact (a g hg).2 (by simp [he])
theorem zzy {gs : List Gv} (h : (gs.map (·.name)).Nodup) : ∀ g ∈ gs, ∀ g' ∈ gs, g.name = g'.name → g = g' := by
  induction gs with
  | nil => intro g hg; cases hg
  | cons x gs ih =>
    rw [List.map_cons, List.nodup_cons] at h
    intro g hg g' hg' e
    rcases List.mem_cons.1 hg with h1 | h1 <;> rcases List.mem_cons.1 hg' with h2 | h2
    · rw [h1, h2]
    · subst h1; exact absurd (List.mem_map.2 ⟨g', h2, e.symm⟩) h.1
    · subst h2; exact absurd (List.mem_map.2 ⟨g, h1, e⟩) h.1
    · exact ih h.2 g h1 g' h2 e
theorem yap {F : Gv → Vv} : ∀ {gs : List Gv} {kn : Kn} {env : En}, KdOk kn env → (∀ g ∈ gs, ji kn g.name = none) → (gs.map (·.name)).Nodup → KdOk (kn ++ j8 gs) (gs.foldl (fun en g => setE g.name g.e.set (F g) en) env)
  | [], kn, env, k, _, _ => by simpa [j8] using k
  | g :: gs, kn, env, k, hf, hn => by
    rw [List.map_cons, List.nodup_cons] at hn
    have h0 := hf g (by simp)
    have k1 : KdOk (kn ++ [(g.name, g.e.set)]) (setE g.name g.e.set (F g) env) := fun w => by
      rw [pa, gx]
      by_cases hw : w = g.name
      · subst hw
        rw [if_pos (by simp), h0]; simp [ji]
      · rw [if_neg (by simpa using hw), k w]
        have : ji [(g.name, g.e.set)] w = none := by rw [ji, if_neg (by simpa using hw)]; rfl
        rw [this, Option.or_none]
    have := yap (F := F) (gs := gs) k1 (fun g' hg' => by
      rw [gx, hf g' (by simp [hg'])]
      have : g'.name ≠ g.name := fun e => hn.1 (List.mem_map.2 ⟨g', hg', e⟩)
      rw [Option.none_or, ji, if_neg (by simpa using this)]; rfl) hn.2
    rw [List.append_assoc] at this
    exact this
theorem zzi {F : Gv → Vv} : ∀ {gs : List Gv} {env : En}, S0 env → (∀ g ∈ gs, g.e.set = false → (F g).s = 0#32) → S0 (gs.foldl (fun en g => setE g.name g.e.set (F g) en) env)
  | [], env, z, _ => z
  | g :: gs, env, z, hf => by
    refine zzi (gs := gs) (fun w v h => ?_) fun g' hg' => hf g' (by simp [hg'])
    rw [pa] at h
    by_cases hw : w = g.name
    · rw [if_pos (by simpa using hw)] at h
      simp only [Option.some.injEq, Prod.mk.injEq] at h
      obtain ⟨h1, rfl⟩ := h
      exact hf g (by simp) h1
    · rw [if_neg (by simpa using hw)] at h; exact z w v h
theorem zpv {u : U} {kn : Kn} {gs : List Gv} {env : En} (e : EnI kn env) (hf : ∀ g ∈ gs, ji kn g.name = none) : RecI u (kn ++ gs.map fun g => (g.name, false)) gs (zbd gs env) := by
  refine ybx e.kd e.z fun w => ?_
  rw [gx]
  have key : ∀ l : List Gv, ji (l.map fun g => (g.name, false)) w = if l.any (fun g => w == g.name) then some false else none := by
    intro l
    induction l with
    | nil => rfl
    | cons g l ih =>
      rw [List.map_cons, ji, ih, List.any_cons]
      cases w == g.name <;> simp
  rw [key]
  split
  · rename_i h
    obtain ⟨g, hg, he⟩ := List.any_eq_true.1 h
    have : w = g.name := eq_of_beq he
    rw [this, hf g hg]; rfl
  · exact Option.or_none
theorem ygt {u : U} {kn : Kn} {env : En} {st : Stm} (ok : zxq kn st) (e : EnI kn env) : EnI (kn ++ st.given) (doE u env st) := by
  cases st with
  | chk k x a => simpa [Stm.given, doE] using e
  | lets rc gs =>
    cases rc with
    | false =>
      obtain ⟨_, ty, hf, hn⟩ := ok
      exact ⟨yap e.kd hf hn, zzi e.z fun g hg hs => zp5 e.kd e.z (ty g hg) hs⟩
    | true =>
      obtain ⟨_, G, hf, hn⟩ := ok
      have := (zyi G (recK gs) _ (zpv (u := u) e hf)).1
      have hs : j8 gs = gs.map fun g => (g.name, false) := List.map_congr_left fun g hg => by rw [G.st g hg]
      show EnI (kn ++ j8 gs) _
      rw [hs]
      exact ⟨this.kd, this.z⟩
theorem ye3 {kn : Kn} {n : Nat} {s s' : Stm} (h : chkS kn n s = .ok s') (hl : ∀ rc gs, s = .lets rc gs → gs.length ≤ 8192) : zxq kn s' := by
  cases s with
  | chk k x a =>
    rw [chkS] at h
    split at h
    · cases h
    · rename_i x' hx
      split at h
      · cases h
      · cases h; exact zes hx
  | lets rc gs =>
    have hl := hl rc gs rfl
    rw [chkS] at h
    split at h
    · cases h
    · rename_i hf
      split at h
      · cases h
      · rename_i l hg
        cases h
        obtain ⟨f1, f2⟩ := zma hf
        have hnm := zg8 hg
        have hnames : l.map (·.name) = gs.map (·.name) := by
          have := congrArg (List.map Prod.fst) hnm
          simpa [List.map_map, Function.comp_def] using this
        have hll : l.length = gs.length := by have := congrArg List.length hnm; simpa using this
        have hfr : ∀ g ∈ l, ji kn g.name = none := fun g hgm => by
          have : g.name ∈ gs.map (·.name) := by rw [← hnames]; exact List.mem_map.2 ⟨g, hgm, rfl⟩
          obtain ⟨g', hg', he⟩ := List.mem_map.1 this
          rw [← he]; exact (f1 g' hg').1
        have each : ∀ {kn rc b} {gs l : List Gv}, zda kn rc b gs = .ok l → ∀ g ∈ l, Typ kn g.e ∧ NoR rc false g.e := by
          intro kn rc b gs
          induction gs with
          | nil => intro l h g hg; rw [zda] at h; cases h; cases hg
          | cons g0 gs ih =>
            intro l h g hg
            rw [zda] at h
            split at h
            · cases h
            · rename_i x hx
              split at h
              · cases h
              · split at h
                · cases h
                · rename_i l' hl'
                  cases h
                  rcases List.mem_cons.1 hg with rfl | hg
                  · exact ⟨zes hx, zgg hx⟩
                  · exact ih hl' g hg
        cases rc with
        | false => exact ⟨by omega, fun g hgm => (each hg g hgm).1, hfr, by rw [hnames]; exact f2⟩
        | true =>
          have e : (gs.map fun g => (g.name, false)) = l.map fun g => (g.name, false) := by
            have := congrArg (List.map fun w : Bys => (w, false)) hnames
            simpa [List.map_map, Function.comp_def] using this.symm
          simp only [if_true] at hg
          refine ⟨by omega, ⟨fun g hgm => by rw [← e]; exact (each hg g hgm).1, zm0 hg, fun g hgm => by rw [hnames]; exact (each hg g hgm).2, fun g hgm => List.mem_map.2 ⟨g, hgm, rfl⟩, zzy (by rw [hnames]; exact f2)⟩, hfr, by rw [hnames]; exact f2⟩
theorem zxm : ∀ {l l' : List Stm} {kn : Kn} {n : Nat}, chkM kn n l = .ok l' → (∀ rc gs, Stm.lets rc gs ∈ l → gs.length ≤ 8192) → zq3 kn l'
  | [], l', kn, n, h, _ => by rw [chkM] at h; cases h; trivial
  | s :: l, l', kn, n, h, hl => by
    rw [chkM] at h
    split at h
    · cases h
    · rename_i s' hs
      split at h
      · cases h
      · rename_i l2 hl2
        cases h
        exact ⟨ye3 hs fun rc gs e => hl rc gs (by simp [e]), zxm hl2 fun rc gs hm => hl rc gs (by simp [hm])⟩
theorem ygm {h : Heap} {q km : Nat} {u : U} {kn : Kn} {env : En} {T : Nat → Prop} {row : List Value} {st : Stm} (W : Wd h q km u env) (p : StP h T row st) (ok : zxq kn st) (e : EnI kn env) :
    ∃ h', DF FF ja [pt q, agg row] h = some (.bool (zk4 u env st), h') ∧ Wd h' q km u (doE u env st) ∧ KC km h h' := by
  cases st with
  | chk k x a =>
    obtain ⟨v, rfl, t⟩ := p
    exact ⟨h, yce W t k a, W, KC.refl _⟩
  | lets rc gs =>
    obtain ⟨s, vs, S, rfl, hs, G, _, _⟩ := p
    cases rc with
    | false =>
      obtain ⟨hl, ty, hf, hn⟩ := ok
      exact yc2 W hs G hl e.kd ty
    | true =>
      obtain ⟨hl, RG, hf, hn⟩ := ok
      exact ya1 W hs G hl RG (zpv e hf)
/-- What is za6, in a row. -/
def ft (bl : En) : List (List Value) := bl.map fun p => vw p.1 p.2.1 p.2.2
def isD (d : Bys × Bool) (p : Bys × Bool × Vv) : Bool := p.1 == d.1 && p.2.1 == d.2
def idxD (d : Bys × Bool) : En → Option Nat
  | [] => none
  | p :: r => if isD d p then some 0 else (idxD d r).map (· + 1)
def zot (d : Bys × Bool) (bl : En) : Vv := match bl.find? (isD d) with
  | none => v0
  | some p => if d.2 then ⟨p.2.2.s, fun _ => 0#32⟩ else ⟨0#32, p.2.2.r⟩
theorem zqk (d : Bys × Bool) : ∀ bl : En, (bl.find? (isD d)) = (idxD d bl).bind fun i => bl[i]?
  | [] => rfl
  | p :: r => by
    rw [List.find?_cons, idxD]
    cases isD d p
    · simp only [Bool.false_eq_true, if_false]
      rw [zqk d r]
      cases idxD d r <;> rfl
    · rfl
theorem yaq (d : Bys × Bool) : ∀ {bl : En} {i : Nat}, idxD d bl = some i → i < bl.length
  | [], i, h => by cases h
  | p :: r, i, h => by
    rw [idxD] at h
    split at h
    · cases h; simp
    · cases hr : idxD d r with
      | none => rw [hr] at h; cases h
      | some k => rw [hr] at h; cases h; have := yaq d hr; simp; omega
theorem zx6 (d : Bys × Bool) (bl : En) {k : Nat} {p : Bys × Bool × Vv} (h : bl[k]? = some p) : idxD d (bl.drop k) = if isD d p then some 0 else (idxD d (bl.drop (k + 1))).map (· + 1) := by
  obtain ⟨hk, rfl⟩ := List.getElem?_eq_some_iff.1 h
  rw [List.drop_eq_getElem_cons hk, idxD]
set_option maxHeartbeats 4000000 in
theorem ycy (d : Bys × Bool) (p : Bys × Bool × Vv) {h : Heap} {c : Nat} (hc : h[c]? = some (.cells (wq d) 0 false)) : DF FF gn [agg (vw p.1 p.2.1 p.2.2), pt c] h = some (.bool (isD d p), h) := by
  refine wh zg7 ?_
  have rc : ∀ L j, Heap.read1 (h ++ L) ⟨c, j, some 0⟩ = (wq d)[j]? := fun L j => we (xa L hc)
  cases hn : p.1 == d.1
  · simp only [zac, z7, xe, zb, z8, zn, ye, zc, w5, zo, zf, ze, zd, List.set_cons_succ, List.set_cons_zero, O_mv, yw, xf, yu, yg, zz, zk, List.cons_append, List.nil_append, List.length_cons, List.length_nil, Nat.reduceAdd, Nat.reduceSub, Nat.zero_add, zm, yb, za, w8, xc, z6, yy, yq, zh, zg, Nat.add_zero, List.getElem?_cons_zero, eq_self, yh, zt, w9, kg, bd_0, yh, rc, wq, hn]
    rw [zf4 _ _ _ _ _ rfl]
    simp only [isD, hn]; rfl
  · simp only [zac, z7, xe, zb, z8, zn, ye, zc, xl, zo, zf, ze, zd, List.set_cons_succ, List.set_cons_zero, O_mv, yw, xf, yu, yg, zz, zk, List.cons_append, List.nil_append, List.length_cons, List.length_nil, Nat.reduceAdd, Nat.reduceSub, Nat.zero_add, zm, yb, za, w8, xc, z6, yy, yq, zh, zg, Nat.add_zero, List.getElem?_cons_zero, List.getElem?_cons_succ, Bool.bne_false, jq, zik, eq_self, yh, zt, w9, kg, bd_0, bd_1, yh, rc, wq, hn, zik]
    rw [zf4 _ _ _ _ _ rfl]
    simp only [isD, hn, Bool.true_and]
    first | rfl | (simp; done) | skip
set_option maxHeartbeats 4000000 in
theorem yez (d : Bys × Bool) (bl : En) {h : Heap} {s : Value} {c : Nat} (hs : Sl h s 35 (ft bl)) (hl : bl.length < 4611686018427387904) (hc : h[c]? = some (.cells (wq d) 0 false)) :
    DF FF qe [s, .func (.func gn) [].toArray [pt c].toArray] h = some (.int .i64 (match idxD d bl with | some i => (i : Int) | none => -1), h) := by
  refine wh pj ?_
  have lens : ∀ K, lenO K s = some (.int .i64 (bl.length : Int), K) := fun K => by rw [hs.len]; simp [ft]
  simp only [ku, z7, zb, z8, zn, zc, zo, zf, ze, zd, List.set_cons_succ, List.set_cons_zero, O_mv, j7, List.cons_append, List.nil_append, List.length_cons, List.length_nil, Nat.reduceAdd, Nat.reduceSub, Nat.zero_add, zm, yb, zx, za, zh, zg, lens]
  refine pq bl.length (fun k st => (∃ j : Nat → Value, st = ⟨[s, .func (.func gn) [].toArray [pt c].toArray, j 2, j 3, j 4, j 5, j 6, .int .i64 (bl.length : Int), .int .i64 (k : Int), j 9, j 10, j 11, j 12, j 13, j 14, j 15, j 16, j 17, j 18], h⟩) ∧ idxD d bl = (idxD d (bl.drop k)).map (· + k)) ?_ ?_ _ ⟨junk rfl, by rw [List.drop_zero]; cases idxD d bl <;> rfl⟩
  · rintro k st hk ⟨⟨j, rfl⟩, e⟩
    obtain ⟨b', o, v, a1, a2⟩ := hs.atH (k := k) (by simpa [ft] using hk)
    have h1 : ((k : Int) < (bl.length : Int)) = True := by simp; omega
    have hb : bl[k]? = some bl[k] := List.getElem?_eq_getElem hk
    have a3 : Heap.read h ⟨b', o, some v⟩ 35 = some (vw bl[k].1 bl[k].2.1 bl[k].2.2) := by rw [a2]; simp [ft]
    have q1 := ycy d bl[k] hc
    rw [zx6 d bl hb] at e
    cases hi : isD d bl[k]
    · rw [hi] at q1 e
      simp only [z7, zr, yl, zb, zw, zu, z8, zn, zc, zo, zf, ze, zd, List.set_cons_succ, List.set_cons_zero, O_mv, yu, yg, List.map_cons, List.map_nil, vh, x7, y8, vj, xy, List.cons_append, List.nil_append, zm, yb, zx, za, zi, Option.map_some, yp, decide_true, h1, a1, a3, bj, jf, q1, xm (k := k) (by omega)]
      refine ⟨junk rfl, ?_⟩
      rw [e]
      simp only [Bool.false_eq_true, if_false, Option.map_map]
      congr 1
      funext x
      simp only [Function.comp_def]; omega
    · rw [hi] at q1 e
      simp only [z7, zr, xe, yl, zb, zw, z8, zn, zc, zo, ze, zd, List.set_cons_succ, List.set_cons_zero, O_mv, yu, yg, List.map_cons, List.map_nil, vh, x7, y8, xy, List.cons_append, List.nil_append, zm, yb, zx, za, y5, xx, zbt, Option.map_some, za2, decide_true, h1, a1, a3, bj, jf, q1]
      rw [e]
      simp
      done
  · rintro st ⟨⟨j, rfl⟩, e⟩
    have h1 : ((bl.length : Int) < (bl.length : Int)) = False := by simp
    simp only [z7, zr, w6, xe, zb, zu, z8, zn, zc, zo, zf, ze, zd, List.set_cons_succ, List.set_cons_zero, O_mv, yu, yg, xy, zm, yb, za, yx, yj, zbt, xj, decide_false, h1]
    rw [e, List.drop_length]
    simp [idxD]
    done
theorem ya9 {h : Heap} {b o n : Nat} {v : Option Nat} {l : List Value} (e : h.read ⟨b, o, v⟩ n = some l) {i m : Nat} (hi : i + m ≤ n) : h.read ⟨b, o + i, v⟩ m = some ((l.drop i).take m) := by
  unfold Heap.read at e ⊢
  simp only at e ⊢
  cases hb : h[b]? with
  | none => rw [hb] at e; cases e
  | some x =>
    rw [hb] at e
    cases x with
    | cells c w ro =>
      simp only at e ⊢
      split at e
      · rename_i hc
        rw [if_pos ⟨hc.1, by omega⟩]
        cases e
        congr 1
        rw [List.drop_take, List.drop_drop, List.take_take, Nat.min_eq_left (by omega)]
      · cases e
    | map es => cases e
    | gone => cases e
theorem v0_s : v0.s = 0#32 := rfl
theorem v0_r : v0.r = fun _ => 0#32 := rfl
def begE (known : Kn) (bl : En) (k : Nat) : En := (known.take k).foldl (fun en d => setE d.1 d.2 (zot d bl) en) []
structure BgS (h : Heap) (u : U) (known : Kn) (bl : En) (k : Nat) (K : Heap) : Prop where
  w : Wd K (h.length + 1) h.length u (begE known bl k)
  p : Pre h K
theorem yge {h K : Heap} {u : U} {known : Kn} {bl : En} {k : Nat} (e : BgS h u known bl k K) {d : Bys × Bool} (hd : known[k]? = some d) (a : List Value) :
    ∃ K', updO (K ++ [.cells a 0 false, .cells (vw d.1 d.2 (zot d bl)) 0 false]) .str (.map (some h.length)) (str d.1) (agg (vw d.1 d.2 (zot d bl))) = some (undef, K') ∧ BgS h u known bl (k + 1) K' := by
  refine ⟨_, znj _ (e.w.more _).hk (yeb d.1 d.2 (zot d bl) _), ?_, (e.p.more _).set (Nat.le_refl _) _⟩
  have e2 : begE known bl (k + 1) = setE d.1 d.2 (zot d bl) (begE known bl k) := zam hd _ _
  rw [e2]
  exact (e.w.more _).set _
def BgI (h : Heap) (u : U) (known : Kn) (bl : En) (bs ks : Value) (k : Nat) (st : St) : Prop := ∃ K, (∃ j : Nat → Value, st = ⟨[j 0, j 1, bs, j 3, j 4, j 5, j 6, pt (h.length + 1), j 8, j 9, j 10, j 11, j 12, j 13, j 14, j 15, j 16, j 17, j 18, ks, .int .i64 (known.length : Int), .int .i64 (k : Int), j 22, j 23, j 24, j 25, j 26, j 27, j 28, j 29, j 30, j 31, j 32, j 33, j 34, j 35, j 36, j 37, j 38, j 39, j 40, j 41, j 42, j 43, j 44, j 45, j 46, j 47, j 48, j 49, j 50, j 51, j 52, j 53, j 54, j 55, j 56, j 57, j 58, j 59], K⟩) ∧ BgS h u known bl k K
def BgO (h : Heap) (u : U) (known : Kn) (bl : En) (st : St) : Prop := ∃ K, (∃ j : Nat → Value, st = ⟨[j 0, j 1, j 2, j 3, j 4, j 5, j 6, pt (h.length + 1), j 8, j 9, j 10, j 11, j 12, j 13, j 14, j 15, j 16, j 17, j 18, j 19, j 20, j 21, j 22, j 23, j 24, j 25, j 26, j 27, j 28, j 29, j 30, j 31, j 32, j 33, j 34, j 35, j 36, j 37, j 38, j 39, j 40, j 41, j 42, j 43, j 44, j 45, j 46, j 47, j 48, j 49, j 50, j 51, j 52, j 53, j 54, j 55, j 56, j 57, j 58, j 59], K⟩) ∧ BgS h u known bl known.length K
set_option maxHeartbeats 8000000 in
theorem yfc {h : Heap} {mb : Nat} {u : U} {known : Kn} {bl : En} {bs ks ss : Value} (hm : h[mb]? = some (.cells [ks, ss] 0 false)) (hk : Sl h ks 2 (known.map wq)) (hkl : known.length ≤ 10000) (hb : Sl h bs 35 (ft bl)) (hbl : bl.length < 4611686018427387904) :
    ∃ h', DF FF pg [pt mb, .int .u32 (u.toNat : Int), bs] h = some (pt (h.length + 1), h') ∧ Wd h' (h.length + 1) h.length u (begE known bl known.length) ∧ Pre h h' := by
  have : ∃ v h', DF FF pg [pt mb, .int .u32 (u.toNat : Int), bs] h = some (v, h') ∧ (v = pt (h.length + 1) ∧ Wd h' (h.length + 1) h.length u (begE known bl known.length) ∧ Pre h h') := by
    refine wz zjb ?_
    have rm : ∀ L j, Heap.read1 (h ++ L) ⟨mb, j, some 0⟩ = ([ks, ss] : List Value)[j]? := fun L j => we (xa L hm)
    have lens : ∀ K, lenO K ks = some (.int .i64 (known.length : Int), K) := fun K => by rw [hk.len, List.length_map]
    have fw : w4 [.int .u32 0, .map none] [(0, 1, .int .u32 (u.toNat : Int)), (1, 1, .map (some h.length))] = some [.int .u32 (u.toNat : Int), .map (some h.length)] := by
      rw [wu _ (by simp), zuf _ (by simp), yz]; rfl
    have s0 : BgS h u known bl 0 (h ++ [.map [], .cells [.int .u32 (u.toNat : Int), .map (some h.length)] 0 false]) := ⟨⟨by simp, by simp [begE, enE]⟩, ⟨_, rfl⟩⟩
    simp only [zd8, z7, zb, z8, zn, zc, zo, zf, ze, zd, List.set_cons_succ, List.set_cons_zero, O_mv, yg, j7, zz, zk, wg, y9, yc, yd, List.cons_append, List.nil_append, List.length_cons, List.length_nil, Nat.reduceAdd, Nat.reduceSub, Nat.zero_add, zm, yb, zx, za, w8, xc, z6, zq, zj, zh, zg, List.append_assoc, List.length_append, Nat.add_zero, List.getElem?_cons_zero, eq_self, yh, zt, yi, j2, ze6, fw, yh, zt, rm, lens]
    refine bk 0 known.length (BgI h u known bl bs ks) (BgO h u known bl) ?_ ?_ _ ⟨_, junk rfl, s0⟩ ?_
    · rintro k st hk' ⟨K, ⟨j, rfl⟩, e⟩
      have hd : known[k]? = some known[k] := List.getElem?_eq_getElem hk'
      obtain ⟨b', o, v, a1, a2⟩ := (hk.pre e.p).atH (k := k) (by simpa using hk')
      have a2 : Heap.read K ⟨b', o, some v⟩ 2 = some (wq known[k]) := by rw [a2]; simp
      obtain ⟨d, hdd⟩ : ∃ d, d = known[k] := ⟨_, rfl⟩
      rw [← hdd] at a2 hd
      have h1 : ((k : Int) < (known.length : Int)) = True := by simp; omega
      have rq : ∀ L j, Heap.read1 (K ++ L) ⟨h.length + 1, j, some 0⟩ = ([.int .u32 (u.toNat : Int), .map (some h.length)] : List Value)[j]? := fun L j => we (e.w.more L).hq
      obtain ⟨H1, hH1⟩ : ∃ H1, H1 = K ++ [AObj.cells (wq d) 0 false, AObj.cells (vw d.1 d.2 v0) 0 false] := ⟨_, rfl⟩
      have hb1 : Sl H1 bs 35 (ft bl) := by rw [hH1]; exact (hb.pre e.p).more _
      have q1 := yez d bl (h := H1) (s := bs) (c := K.length) hb1 hbl (by rw [hH1]; simp)
      rw [hH1] at q1
      obtain ⟨K', w1, e'⟩ := yge e hd (wq d)
      have hp : zot d bl = match idxD d bl with | none => v0 | some i => match bl[i]? with | none => v0 | some p => if d.2 then ⟨p.2.2.s, fun _ => 0#32⟩ else ⟨0#32, p.2.2.r⟩ := by
        unfold zot; rw [zqk]
        cases idxD d bl <;> rfl
      cases hi : idxD d bl with
      | none =>
        rw [hi] at q1 hp
        simp only at q1 hp
        rw [hp] at w1
        simp only [wq] at a2 q1 w1
        simp only [z7, zr, yl, zb, zw, z8, zn, zc, zp, zo, zf, ze, zd, List.set_cons_succ, List.set_cons_zero, O_mv, yu, yg, yf, List.map_cons, List.map_nil, vh, zz, zk, x7, y8, wg, y9, yc, yd, yz, ba, Nat.zero_lt_succ, Nat.reduceLT, vj, xy, List.cons_append, List.nil_append, List.length_cons, List.length_nil, Nat.reduceAdd, Nat.zero_add, zm, yb, zx, za, zi, y0, xc, z6, zl, y4, ya, zq, zj, yy, yq, qq, qx, xh, yk, va, ve, zy, vm, zs, List.append_assoc, List.length_append, Nat.add_zero, Option.map_some, List.getElem?_cons_zero, List.getElem?_cons_succ, Int.reduceLT, eq_self, yp, wo, decide_true, kg, zi2, zdt, h1, a1, a2, g9, q1, rq, fy, w1, xm (k := k) (by omega)]
        exact ⟨K', junk rfl, e'⟩
      | some i =>
        have hlt := yaq d hi
        have hb0 : bl[i]? = some bl[i] := List.getElem?_eq_getElem hlt
        rw [hi] at q1 hp
        simp only [hb0] at q1 hp
        obtain ⟨b2, o2, v2, r1, r2⟩ := hb1.atH (k := i) (by simpa [ft] using hlt)
        have r2 : Heap.read H1 ⟨b2, o2, some v2⟩ 35 = some (vw bl[i].1 bl[i].2.1 bl[i].2.2) := by rw [r2]; simp [ft]
        have r3 := yby r2 (bd_2 bl[i].1 bl[i].2.1 bl[i].2.2)
        have r4 := ya9 r2 (i := 3) (m := 32) (by decide)
        rw [zxi] at r4
        rw [hH1] at r3 r4
        have hneg : ((i : Int) < 0) = False := by simp
        cases hd2 : d.2
        · rw [hd2] at w1 hp q1 r3 r4 hH1
          rw [hp] at w1
          simp only [wq, hd2, Bool.false_eq_true, if_false] at a2 q1 w1 r3 r4
          simp only [z7, zr, yl, zb, zw, zu, z8, zn, zc, zp, zo, zf, ze, zd, List.set_cons_succ, List.set_cons_zero, O_mv, yu, yg, yf, List.map_cons, List.map_nil, vh, zz, zk, x7, y8, wg, y9, yc, yd, yz, ba, Nat.zero_lt_succ, Nat.reduceLT, vj, xy, List.cons_append, List.nil_append, List.length_cons, List.length_nil, Nat.reduceAdd, Nat.zero_add, zm, yb, zx, za, zi, y0, xc, z6, zl, y4, ya, zq, zj, yy, yq, qq, qx, xh, yk, va, ve, zy, vm, zs, List.append_assoc, List.length_append, Nat.add_zero, Option.map_some, List.getElem?_cons_zero, List.getElem?_cons_succ, eq_self, yp, wo, decide_true, decide_false, x9, kg, zi2, zdt, ya3, h1, a1, a2, g9, q1, hneg, r1, r4, v0_s, rq, fy, w1, xm (k := k) (by omega)]
          exact ⟨K', junk rfl, e'⟩
        · rw [hd2] at w1 hp q1 r3 r4 hH1
          rw [hp] at w1
          simp only [wq, hd2, if_true] at a2 q1 w1 r3 r4
          simp only [z7, zr, yl, zb, zw, zu, z8, zn, zc, zp, zo, zf, ze, zd, List.set_cons_succ, List.set_cons_zero, O_mv, yu, yg, yf, List.map_cons, List.map_nil, vh, zz, zk, x7, y8, wg, y9, yc, yd, yz, ba, Nat.zero_lt_succ, Nat.reduceLT, vj, xy, List.cons_append, List.nil_append, List.length_cons, List.length_nil, Nat.reduceAdd, Nat.zero_add, zm, yb, zx, za, zi, y0, xc, z6, zl, xd, x5, y4, ya, zq, zj, yy, yq, qq, qx, xh, yk, va, fx, b4, vg, ve, zy, vm, zs, List.append_assoc, List.length_append, Nat.add_zero, Option.map_some, List.getElem?_cons_zero, List.getElem?_cons_succ, eq_self, yp, wo, decide_true, decide_false, kg, zi2, zdt, zyx, h1, a1, a2, g9, q1, hneg, r1, r3, v0_r, rq, fy, w1, xm (k := k) (by omega)]
          exact ⟨K', junk rfl, e'⟩
    · rintro st ⟨K, ⟨j, rfl⟩, e⟩
      have h1 : ((known.length : Int) < (known.length : Int)) = False := by simp
      simp only [z7, zr, w6, zb, zu, z8, zn, zc, zo, ze, zd, List.set_cons_succ, List.set_cons_zero, yu, yg, xy, zm, yb, za, yx, gj, xj, decide_false, h1, gj]
      exact ⟨K, junk rfl, e⟩
    rintro st ⟨K, ⟨j, rfl⟩, e⟩
    simp only [z7, xe, zb, z8, zn, zc, zo, ze, zd, List.set_cons_succ, List.set_cons_zero, O_mv, zm, yb, za, yj, xt, eq_self, gc]
    exact ⟨trivial, e.w, e.p⟩
  obtain ⟨v, h', hq, rfl, hw, hp⟩ := this
  exact ⟨h', hq, hw, hp⟩
theorem KC.pre {km : Nat} {h K H : Heap} (p : Pre h K) (k : KC km K H) (hk : h.length ≤ km) : Pre h H :=
  Pre.of (Nat.le_trans p.le k.le) fun b o ho => k.oth b o (p.kept b o ho) (by have := zeh ho; omega)
def knAt (kn : Kn) (l : List Stm) (k : Nat) : Kn := (l.take k).foldl (fun kn s => kn ++ s.given) kn
def enAt (u : U) (env : En) (l : List Stm) (k : Nat) : En := (l.take k).foldl (doE u) env
theorem ztp : ∀ {l : List Stm} {kn : Kn} {k : Nat} {s : Stm}, zq3 kn l → l[k]? = some s → zxq (knAt kn l k) s
  | [], kn, k, s, h, hk => by simp at hk
  | x :: l, kn, 0, s, h, hk => by cases hk; exact h.1
  | x :: l, kn, k + 1, s, h, hk => ztp (kn := kn ++ x.given) h.2 (by simpa using hk)
theorem zxz {u : U} : ∀ {l : List Stm} {env : En} {s : Stm} {k : Nat}, l[k]? = some s → zak u env (l.drop k) = if zk4 u env s then zak u (doE u env s) (l.drop (k + 1)) else some (zv8 s) := by
  intro l env s k h
  rw [zdf h, zak]
structure HoS (h : Heap) (u : U) (md : Md) (env0 : En) (ss : Value) (k : Nat) (K : Heap) : Prop where
  w : Wd K (h.length + 1) h.length u (enAt u env0 md.l k)
  p : Pre h K
  e : EnI (knAt md.known md.l k) (enAt u env0 md.l k)
theorem ye0 {h : Heap} {u : U} {md : Md} {env0 : En} {ss : Value} {k : Nat} {K : Heap} {rows : List (List Value)} {T : Nat → Prop} (hs : Sl h ss 4 rows) (sp : StsP h T rows md.l) (ok : zq3 md.known md.l) (e : HoS h u md env0 ss k K) {s : Stm} (hk : md.l[k]? = some s) :
    ∃ row b' o v K', row.length = 4 ∧ row[3]? = some (str (zv8 s)) ∧ (∀ H', rowO H' 4 ss (.int .i64 (k : Int)) = some (.pointer (some ⟨b', o, some v⟩), H')) ∧ Heap.read K ⟨b', o, some v⟩ 4 = some row ∧
      DF FF ja [pt (h.length + 1), agg row] (K ++ [.cells row 0 false]) = some (.bool (zk4 u (enAt u env0 md.l k) s), K') ∧ HoS h u md env0 ss (k + 1) K' ∧ K'[K.length]? = some (.cells row 0 false) := by
  obtain ⟨row, Tk, hr, sk, _⟩ := sp.focus hk
  have hlt := (List.getElem?_eq_some_iff.1 hr).1
  obtain ⟨b', o, v, a1, a2⟩ := (hs.pre e.p).atH (k := k) hlt
  have hr' : rows[k] = row := (List.getElem?_eq_some_iff.1 hr).2
  rw [hr'] at a2
  have h4 : row.length = 4 := hs.2 row (List.mem_of_getElem? hr)
  have h3 : row[3]? = some (str (zv8 s)) := by
    cases s with
    | lets rc gs => obtain ⟨_, _, _, rfl, _⟩ := sk; rfl
    | chk c x a => obtain ⟨_, rfl, _⟩ := sk; rfl
  have skK : StP (K ++ [AObj.cells row 0 false]) Tk row s := sk.keep fun b o _ ho => xa _ (e.p.kept b o ho)
  obtain ⟨K', q1, w1, k1⟩ := ygm (e.w.more [.cells row 0 false]) skK (ztp ok hk) e.e
  have e1 : enAt u env0 md.l (k + 1) = doE u (enAt u env0 md.l k) s := zam hk _ _
  have e2 : knAt md.known md.l (k + 1) = knAt md.known md.l k ++ s.given := zam hk _ _
  exact ⟨row, b', o, v, K', h4, h3, a1, a2, q1, ⟨by rw [e1]; exact w1, KC.pre (e.p.more _) k1 (Nat.le_refl _), by rw [e1, e2]; exact ygt (ztp ok hk) e.e⟩, k1.keep _ _ _ _ (by simp)⟩
theorem ydo {h K : Heap} (p : Pre h K) (b : Bool) (w : Bys) : AM.finish h (tup [.bool b, str w]) K = h := by obtain ⟨L, rfl⟩ := p; exact fv h L rfl
def zjz : Option Bys → Value
  | none => tup [.bool true, str []]
  | some w => tup [.bool false, str w]
def HoI (h : Heap) (u : U) (md : Md) (env0 : En) (ss : Value) (k : Nat) (st : St) : Prop := ∃ K, (∃ j : Nat → Value, st = ⟨[j 0, j 1, j 2, j 3, j 4, j 5, j 6, j 7, pt (h.length + 1), j 9, j 10, j 11, j 12, j 13, j 14, j 15, j 16, j 17, ss, .int .i64 (md.l.length : Int), .int .i64 (k : Int), j 21, j 22, j 23, j 24, j 25, j 26, j 27, j 28, j 29, j 30], K⟩) ∧ HoS h u md env0 ss k K ∧ zak u env0 md.l = zak u (enAt u env0 md.l k) (md.l.drop k)
theorem zv1 {known : Kn} {bl : En} : ∀ k, k ≤ known.length → (known.map (·.1)).Nodup → KdOk (known.take k) (begE known bl k) ∧ S0 (begE known bl k) := by
  intro k
  induction k with
  | zero => intro _ _; exact ⟨fun w => rfl, fun w v h => by simp [begE, bv] at h⟩
  | succ k ih =>
    intro hk hn
    obtain ⟨a, z⟩ := ih (by omega) hn
    have hd : known[k]? = some known[k] := List.getElem?_eq_getElem (by omega)
    have e : begE known bl (k + 1) = setE known[k].1 known[k].2 (zot known[k] bl) (begE known bl k) := zam hd _ _
    rw [e, List.take_add_one, hd]
    simp only [Option.toList_some]
    have hnew : ji (known.take k) known[k].1 = none := by
      rw [zgo, Option.map_eq_none_iff, List.find?_eq_none]
      intro p hp he
      have he : known[k].1 = p.1 := eq_of_beq he
      obtain ⟨i, hi, hip⟩ := List.getElem_of_mem hp
      rw [List.getElem_take] at hip
      have hik : i < k := by simp at hi; omega
      have := (List.nodup_iff_pairwise_ne.1 hn)
      rw [List.pairwise_iff_getElem] at this
      have := this i k (by simp; omega) (by simp; omega) hik
      simp only [List.getElem_map] at this
      rw [hip] at this
      exact this he.symm
    refine ⟨fun w => ?_, fun w v h => ?_⟩
    · rw [pa, gx]
      by_cases hw : w = known[k].1
      · subst hw
        rw [if_pos (by simp), hnew]; simp [ji]
      · rw [if_neg (by simpa using hw), a w]
        have : ji [known[k]] w = none := by rw [ji, if_neg (by simpa using hw)]; rfl
        rw [this, Option.or_none]
    · rw [pa] at h
      by_cases hw : w = known[k].1
      · rw [if_pos (by simpa using hw)] at h
        simp only [Option.some.injEq, Prod.mk.injEq] at h
        obtain ⟨h1, rfl⟩ := h
        unfold zot
        split
        · rfl
        · rw [h1]; rfl
      · rw [if_neg (by simpa using hw)] at h; exact z w v h
theorem zf9 : ∀ (ns kn : Kn), (kn.map (·.1)).Nodup → ((b7 kn ns).map (·.1)).Nodup
  | [], kn, h => by rw [b7]; exact h
  | d :: r, kn, h => by
    rw [b7]
    split
    · exact zf9 r kn h
    · rename_i hd
      refine zf9 r _ ?_
      rw [List.map_append, List.map_singleton]
      refine List.nodup_append.2 ⟨h, by simp, fun a ha b hb => ?_⟩
      simp at hb
      subst hb
      rintro rfl
      obtain ⟨p, hp, he⟩ := List.mem_map.1 ha
      apply hd
      rw [zgo, Option.isSome_map, List.find?_isSome]
      exact ⟨p, hp, by simp [he]⟩
structure MdOk (md : Md) : Prop where
  nd : (md.known.map (·.1)).Nodup
  ok : zq3 md.known md.l
def env0 (md : Md) (bl : En) : En := begE md.known bl md.known.length
theorem yft {md : Md} (ok : MdOk md) (bl : En) : EnI md.known (env0 md bl) := by
  obtain ⟨a, z⟩ := zv1 (bl := bl) md.known.length (Nat.le_refl _) ok.nd
  rw [List.take_length] at a
  exact ⟨a, z⟩
set_option maxHeartbeats 4000000 in
theorem ze5 {h : Heap} {S : Nat → Prop} {mb : Nat} {md : Md} {u : U} {bl : En} {bs : Value} (M : ModP h S mb md) (ok : MdOk md) (hb : Sl h bs 35 (ft bl)) (hbl : bl.length < 4611686018427387904) :
    DF FF jz [pt mb, .int .u32 (u.toNat : Int), bs] h = some (zjz (zak u (env0 md bl) md.l), h) := by
  obtain ⟨⟨ks, ss, rows, T, hm, hk, hs, sp, _⟩, _, hlen⟩ := M
  have : ∃ v h', DF FF jz [pt mb, .int .u32 (u.toNat : Int), bs] h = some (v, h') ∧ (v = zjz (zak u (env0 md bl) md.l) ∧ h' = h) := by
    refine wz zji ?_
    obtain ⟨H, q0, w0, p0⟩ := yfc (u := u) hm hk hlen.2.1 hb hbl
    have lens : ∀ K, lenO K ss = some (.int .i64 (md.l.length : Int), K) := fun K => by rw [hs.len, (sp.len).1]
    have rm : ∀ j, Heap.read1 H ⟨mb, j, some 0⟩ = ([ks, ss] : List Value)[j]? := fun j => we (p0.kept _ _ hm)
    simp only [zd9, z7, zb, z8, zn, zc, zo, zf, ze, zd, List.set_cons_succ, List.set_cons_zero, O_mv, yg, yf, List.map_cons, List.map_nil, j7, zz, zk, List.cons_append, List.nil_append, List.length_cons, List.length_nil, Nat.reduceAdd, Nat.reduceSub, Nat.zero_add, zm, yb, zx, za, xc, z6, zq, zj, zh, zg, List.getElem?_cons_zero, List.getElem?_cons_succ, yi, q0, rm, lens]
    refine pq md.l.length (HoI h u md (env0 md bl) ss) ?_ ?_ _ ⟨H, junk rfl, ⟨w0, p0, yft ok bl⟩, rfl⟩
    · rintro k st hk' ⟨K, ⟨j, rfl⟩, e, he⟩
      have hd : md.l[k]? = some md.l[k] := List.getElem?_eq_getElem hk'
      obtain ⟨row, b', o, v, K', h4, h3, a1, a2, q1, e', hrow⟩ := ye0 hs sp ok.ok e hd
      have h1 : ((k : Int) < (md.l.length : Int)) = True := by simp; omega
      rw [zxz hd] at he
      cases hh : zk4 u (enAt u (env0 md bl) md.l k) md.l[k]
      · rw [hh] at q1 he
        have rr : Heap.read1 K' ⟨K.length, 3, some 0⟩ = some (str (zv8 md.l[k])) := by rw [we hrow, h3]
        simp only [z7, zr, xe, yl, zb, zw, z8, zn, zc, zp, zo, zf, ze, zd, List.set_cons_succ, List.set_cons_zero, O_mv, yu, yg, O_un, yf, List.map_cons, List.map_nil, vh, zz, zk, x7, y8, xy, vp, List.length_cons, List.length_nil, Nat.reduceAdd, Nat.zero_add, Bool.not_false, zm, yb, zx, za, y5, xx, y0, xc, z6, zl, y4, ya, xr, xh, yk, zy, zs, Option.map_some, zfq, eq_self, za2, decide_true, h1, a1, a2, h4, q1, rr, ydo e'.p]
        rw [he]
        exact ⟨rfl, trivial⟩
      · rw [hh] at q1 he
        simp only [z7, zr, yl, zb, zw, zu, z8, zn, zc, zp, zo, zf, ze, zd, List.set_cons_succ, List.set_cons_zero, O_mv, yu, yg, O_un, yf, List.map_cons, List.map_nil, vh, x7, y8, vj, xy, vp, List.length_cons, List.length_nil, Nat.reduceAdd, Nat.zero_add, Bool.not_true, zm, yb, zx, za, zi, y0, zl, y4, ya, xr, xh, yk, zy, zs, Option.map_some, eq_self, yp, decide_true, h1, a1, a2, h4, q1, xm (k := k) (by omega)]
        have e1 : enAt u (env0 md bl) md.l (k + 1) = doE u (enAt u (env0 md bl) md.l k) md.l[k] := zam hd _ _
        exact ⟨K', junk rfl, e', by rw [he, e1]; rfl⟩
    · rintro st ⟨K, ⟨j, rfl⟩, e, he⟩
      have h1 : ((md.l.length : Int) < (md.l.length : Int)) = False := by simp
      simp only [z7, zr, w6, xe, zb, zu, z8, zn, zc, zo, zf, ze, zd, List.set_cons_succ, List.set_cons_zero, O_mv, yu, yg, xy, zm, yb, za, yx, yj, zfq, eq_self, xj, decide_false, h1, ydo e.p]
      rw [he, List.drop_length]
      exact ⟨rfl, trivial⟩
  obtain ⟨v, h', hq, rfl, rfl⟩ := this
  exact hq
theorem zm7 {e : Nat} : ∀ {k : Nat} {ts r : List Tok} {l : List Stm}, kf e k ts = .ok l r → ∀ rc gs, Stm.lets rc gs ∈ l → gs.length ≤ ts.length
  | 0, ts, r, l, h, rc, gs, hm => by rw [kf] at h; cases h; cases hm
  | k + 1, [], r, l, h, rc, gs, hm => by rw [kf] at h; cases h; cases hm
  | k + 1, t :: ts, r, l, h, rc, gs, hm => by
    rw [kf] at h
    split at h
    · cases h
    · rename_i s r1 hs
      split at h
      · cases h
      · rename_i l2 r2 hl
        cases h
        have q := zc0 hs
        rcases List.mem_cons.1 hm with hm | hm
        · have := q.2 rc gs hm.symm; simp only [List.length_cons]; omega
        · have := zm7 hl rc gs hm; simp only [List.length_cons]; omega
theorem zkp {text : Bys} {names : Kn} {md : Md} (h : zaj text names = .ok md) : MdOk md ∧ text.length ≤ 4096 ∧ md.known = b7 [] names ∧ ∃ ts l, fi text 0 = .ok ts ∧ znx text.length ts = .ok l [] ∧ chkM (b7 [] names) 0 l = .ok md.l := by
  unfold zaj at h
  split at h
  · cases h
  · rename_i hn
    split at h
    · cases h
    · rename_i ts hs
      split at h
      · cases h
      · rename_i l r hl
        split at h
        · cases h
        · rename_i l' hk
          cases h
          have g := zly text.length text 0 ts (Nat.le_refl _) hs
          have lt := zl1 ts fun t ht => (g.1 t ht).2
          have hr : r = [] := by
            have key : ∀ (k : Nat) (ts : List Tok) (l : List Stm) (r : List Tok), ts.length ≤ k → kf text.length k ts = .ok l r → r = [] := by
              intro k
              induction k with
              | zero => intro ts l r hk h; rw [kf] at h; cases h; exact List.eq_nil_of_length_eq_zero (by omega)
              | succ k ih =>
                intro ts l r hk h
                cases ts with
                | nil => rw [kf] at h; cases h; rfl
                | cons t ts =>
                  rw [kf] at h
                  split at h
                  · cases h
                  · rename_i s r1 hs1
                    split at h
                    · cases h
                    · rename_i l2 r2 hl2
                      cases h
                      exact ih _ _ _ (by have := (zc0 hs1).1; simp at hk; omega) hl2
            exact key _ _ _ _ (Nat.le_refl _) hl
          subst hr
          exact ⟨⟨zf9 names [] (by simp), zxm hk fun rc gs hm => by have := zm7 hl rc gs hm; omega⟩, by omega, rfl, ts, l, hs, hl, hk⟩
def yay : Bys := [108, 101, 116, 32, 116, 32, 61, 32, 114, 32, 59, 32, 114, 32, 97, 99, 121, 99, 108, 105, 99, 32, 116, 32, 97, 115, 32, 103, 111, 111, 100]
def nAble : Kn := [([114], false), ([87], true)]
def mdOf : CR Md → Md
  | .ok m => m
  | .bad _ _ => ⟨[], []⟩
def mAble : Md := mdOf (zaj yay nAble)
theorem zny : zaj yay nAble = .ok mAble := by kernel_rfl
theorem zs2 : zaj [97, 99, 121, 99, 108, 105, 99, 32, 87] nAble = .bad 41 8 := by kernel_rfl
def r2 (n : Nat) : Nat → U := fun k => if k = 0 then BitVec.ofNat 32 n else 0#32
def zs4 (n : Nat) : En := [([114], false, ⟨0#32, r2 n⟩)]
theorem zwu : zak 3#32 (env0 mAble (zs4 2)) mAble.l = none := by kernel_rfl
theorem zrp : zak 3#32 (env0 mAble (zs4 1)) mAble.l = some [103, 111, 111, 100] := by kernel_rfl
theorem ygv : (relV fun _ => 0#32).set 0 (.int .u32 2) = relV (r2 2) := by kernel_rfl
theorem ygj : (relV fun _ => 0#32).set 0 (.int .u32 1) = relV (r2 1) := by kernel_rfl
theorem yc0 (w : Bys) (b : Bool) (v : Vv) (r : Nat → U) : w4 (vw w b v) [(3, 32, agg (relV r))] = some (vw w b ⟨v.s, r⟩) := by
  have e : ∀ (x : Vv), vw w b x = [str w, .bool b, .int .u32 (x.s.toNat : Int)] ++ relV x.r ++ [] := fun x => by rw [List.append_nil]; rfl
  rw [e, zgt (i := 3) (x9 r) rfl (x9 _), yz, e]
theorem zy1 (a : Bys) (b : Bool) (v : Vv) : w4 (vw [] false v0) [(0, 35, agg (vw a b v))] = some (vw a b v) := by
  have := zlc (kg [] false v0) (kg a b v)
  simpa [bw] using this
set_option maxHeartbeats 4000000 in
theorem zg2 {h : Heap} (g : Gl h) : DF FF fz [] h = some (.bool true, h) := by
  have : ∃ v h', DF FF fz [] h = some (v, h') ∧ (v = .bool true ∧ h' = h) := by
    refine wz zhg ?_
    have f1 : w4 [str [], Value.bool false, str [], Value.bool false] [(0, 2, agg [str [114], Value.bool false]), (2, 2, agg [str [87], Value.bool true])] = some [str [114], Value.bool false, str [87], Value.bool true] := by rfl
    obtain ⟨H, hH⟩ : ∃ H, H = h ++ [AObj.cells [str [114], Value.bool false, str [87], Value.bool true] 0 false] := ⟨_, rfl⟩
    have sl : Sl H (.slice (some ⟨h.length, 0, some 0⟩) 2 2) 2 (nAble.map wq) := by
      rw [hH]; exact Sl.last (rows := nAble.map wq) (c := 2) h rfl rfl (by intro r hr; simp only [nAble, List.map_cons, List.map_nil, List.mem_cons, List.not_mem_nil, or_false] at hr; rcases hr with rfl | rfl <;> rfl) 0 false
    have p0 : Pre h H := ⟨_, hH⟩
    obtain ⟨v1, h1, q1, r1, p1⟩ := zhn yay nAble _ (g.pre p0) sl (by decide)
    rw [zny] at r1
    obtain ⟨mb, rfl, M⟩ := r1
    obtain ⟨v2, h2, q2, r2', p2⟩ := zhn [97, 99, 121, 99, 108, 105, 99, 32, 87] nAble _ ((g.pre p0).pre p1) (sl.pre p1) (by decide)
    rw [zs2] at r2'
    obtain ⟨rfl, rfl, _⟩ := r2'
    have ok := (zkp zny).1
    have hb : ∀ (L : Heap) (n : Nat), Sl (h2 ++ L ++ [AObj.cells (vw [114] false ⟨0#32, r2 n⟩) 0 false]) (.slice (some ⟨(h2 ++ L).length, 0, some 0⟩) 1 35) 35 (ft (zs4 n)) := fun L n => Sl.last (rows := [vw [114] false ⟨0#32, r2 n⟩]) (c := 35) _ (by simp) rfl (by intro r hr; rw [List.mem_singleton] at hr; subst hr; exact kg _ _ _) 0 false
    have w1 := ze5 (u := 3#32) (bs := .slice (some ⟨(h2 ++ []).length, 0, some 0⟩) 1 35) (M.keep fun b o _ ho => xa ([] ++ [AObj.cells (vw [114] false ⟨0#32, r2 2⟩) 0 false]) ho) ok (by have := hb [] 2; rwa [List.append_assoc] at this) (by simp [zs4] : (zs4 _).length < _)
    have w2 := ze5 (u := 3#32) (bs := .slice (some ⟨(h2 ++ [AObj.cells (vw [114] false ⟨0#32, r2 2⟩) 0 false]).length, 0, some 0⟩) 1 35) (M.keep fun b o _ ho => xa ([AObj.cells (vw [114] false ⟨0#32, r2 2⟩) 0 false] ++ [AObj.cells (vw [114] false ⟨0#32, r2 1⟩) 0 false]) ho) ok (by have := hb [AObj.cells (vw [114] false ⟨0#32, r2 2⟩) 0 false] 1; rwa [List.append_assoc] at this) (by simp [zs4] : (zs4 _).length < _)
    rw [zwu] at w1
    rw [zrp] at w2
    obtain ⟨v3, h3, q3, o3, p3⟩ := zgb (M.keep fun b o _ ho => xa ([AObj.cells (vw [114] false ⟨0#32, r2 2⟩) 0 false] ++ [AObj.cells (vw [114] false ⟨0#32, r2 1⟩) 0 false]) ho)
    obtain ⟨v4, h4, q4, o4, p4⟩ := zi8 (M.keep fun b o _ ho => p3.kept b o (xa ([AObj.cells (vw [114] false ⟨0#32, r2 2⟩) 0 false] ++ [AObj.cells (vw [114] false ⟨0#32, r2 1⟩) 0 false]) ho))
    have l3 : ((((b5 mAble.l).map wRow).length : Nat) : Int) = 1 := by kernel_rfl
    have l4 : ((((zc2 mAble.l).map wq).length : Nat) : Int) = 1 := by kernel_rfl
    have l3' := fun K => o3.len K
    have l4' := fun K => o4.len K
    rw [l3] at l3'
    rw [l4] at l4'
    have e3 : ((3#32 : U).toNat : Int) = 3 := by rfl
    simp only [List.append_nil, List.nil_append, List.length_append, List.length_singleton, List.singleton_append, e3, zjz] at w1 w2 q3 q4
    unfold yay at q1
    simp only [zcz, z7, zr, xe, yl, zb, zu, z8, zn, ye, zc, xl, yr, zo, zf, ze, zd, List.set_cons_succ, List.set_cons_zero, O_mv, yw, xf, yu, yg, O_un, yf, List.map_cons, List.map_nil, j7, ww, wg, wd, y9, yc, yd, xb, xi, yz, wu, ba, Nat.lt_add_one, Nat.zero_lt_succ, jy, zit, vp, List.cons_append, List.nil_append, List.length_cons, List.length_nil, Nat.reduceAdd, Nat.reduceSub, Nat.zero_add, Bool.not_false, zm, yb, za, slc, xg, y7, zh, zg, List.append_assoc, List.length_append, List.append_nil, List.getElem?_cons_zero, List.getElem?_cons_succ, xt, Bool.bne_false, beq_self_eq_true, jq, eq_self, yi, w9, Int.reduceBNe, wo, qz, x9, j2, kg, zi2, f1, wd, slc, ← hH, q1, q2, ygv, ygj, yc0, v0_s, zy1, xo, xq, Int.cast_ofNat_Int, w1, w2, q3, q4, l3', l4']
    have pp : Pre h h4 := (((p0.trans p1).more _).trans p3).trans p4
    obtain ⟨L, rfl⟩ := pp
    exact ⟨trivial, fv h L rfl⟩
  obtain ⟨v, h', q, rfl, rfl⟩ := this
  exact q
theorem zy9 {e k : Nat} {t : Tok} {ts r : List Tok} {l : List Stm} (h : kf e (k + 1) (t :: ts) = .ok l r) : l ≠ [] := by
  rw [kf] at h
  split at h
  · cases h
  · split at h
    · cases h
    · cases h; simp
/-- Names and what they are to stand for, at other places. -/
def SameGs (gs gs' : List Gv) : Prop := gs'.map (fun g => (g.name, g.e.er)) = gs.map fun g => (g.name, g.e.er)
def zyd : Stm → Stm → Prop
  | .lets rc gs, .lets rc' gs' => rc' = rc ∧ SameGs gs gs'
  | .chk k x a, .chk k' x' a' => k' = k ∧ x'.er = x.er ∧ a' = a
  | _, _ => False
def yec : Stm → Stm → Prop
  | .lets _ _, _ => True
  | .chk k x _, s' => ∃ x' a', s' = .chk k x' a' ∧ (x'.er = x.er ∨ Clash x x')
def RelS (R : List Tok) : PR Stm → PR Stm → Prop
  | .bad _ _, _ => True
  | .ok _ _, .bad _ _ => True
  | .ok s [], .ok s' r' => yec s s' ∨ ∃ t l, zu6 t ∧ r' = t :: l
  | .ok s (t :: r), .ok s' r' => zyd s s' ∧ bo R (t :: r) r'
theorem RelS.bad (R : List Tok) (p : PR Stm) (c a : Nat) : RelS R p (.bad c a) := by
  cases p with
  | bad _ _ => trivial
  | ok x r => cases r <;> trivial
section
variable {R : List Tok}
theorem zp7 {e e' : Nat} {ts ts' r : List Tok} {w : Bys × Nat} (h : bo R ts ts') (hp : zfd e ts = .ok w r) : ∃ w' r', zfd e' ts' = .ok w' r' ∧ w'.1 = w.1 ∧ bo R r r' := by
  cases ts with
  | nil => cases hp
  | cons a l =>
    cases ts' with
    | nil => exact h.elim
    | cons b l' =>
      rw [zfd] at hp ⊢
      rw [h.1.nam]
      split at hp
      · rename_i hn
        cases hp
        rw [if_pos hn]
        exact ⟨_, _, rfl, h.1.2.1.symm, h.2⟩
      · cases hp
theorem yfl {e e' : Nat} {m : Bys} {ts ts' r : List Tok} {u : Unit} (h : bo R ts ts') (hp : eatP e m ts = .ok u r) : ∃ r', eatP e' m ts' = .ok () r' ∧ bo R r r' := by
  cases ts with
  | nil => cases hp
  | cons a l =>
    cases ts' with
    | nil => exact h.elim
    | cons b l' =>
      rw [eatP] at hp ⊢
      rw [h.1.key]
      split at hp
      · rename_i hn
        cases hp
        rw [if_pos hn]
        exact ⟨_, rfl, h.2⟩
      · cases hp
theorem yc6 (s : zid R) {e e' : Nat} {ts ts' r : List Tok} {t : Tok} {g : Gv} (h : bo R ts ts') (hp : zg9 e ts = .ok g (t :: r)) : (∃ c a, zg9 e' ts' = .bad c a) ∨ ∃ g' r', zg9 e' ts' = .ok g' r' ∧ g'.name = g.name ∧ g'.e.er = g.e.er ∧ bo R (t :: r) r' := by
  unfold zg9 at hp ⊢
  cases h1 : zfd e ts with
  | bad c a => rw [h1] at hp; cases hp
  | ok w r1 =>
    rw [h1] at hp
    obtain ⟨w', r1', q1, e1, b1⟩ := zp7 (e' := e') h h1
    rw [q1]
    simp only at hp ⊢
    cases h2 : eatP e [61] r1 with
    | bad c a => rw [h2] at hp; cases hp
    | ok u r2 =>
      rw [h2] at hp
      obtain ⟨r2', q2, b2⟩ := yfl (e' := e') b1 h2
      rw [q2]
      simp only at hp ⊢
      have hs := zlk s e e' 32 r2 r2' b2
      cases h3 : zfm e 32 r2 with
      | bad c a => rw [h3] at hp; cases hp
      | ok x r3 =>
        rw [h3] at hp hs
        cases hp
        cases h4 : zfm e' 32 r2' with
        | bad c a => exact .inl ⟨c, a, rfl⟩
        | ok x' r3' =>
          rw [h4] at hs
          exact .inr ⟨_, _, rfl, e1, hs.1, hs.2⟩
theorem zp8 (s : zid R) {e e' : Nat} : ∀ {k k' : Nat} {ts ts' r : List Tok} {t : Tok} {gs : List Gv}, bo R ts ts' → ts.length < k → ts'.length < k' → fm e k ts = .ok gs (t :: r) → (∃ c a, fm e' k' ts' = .bad c a) ∨ ∃ gs' r', fm e' k' ts' = .ok gs' r' ∧ SameGs gs gs' ∧ bo R (t :: r) r'
  | 0, _, ts, ts', r, t, gs, h, hz, hk, hp => absurd hz (Nat.not_lt_zero _)
  | k + 1, 0, ts, ts', r, t, gs, h, hz, hk, hp => absurd hk (Nat.not_lt_zero _)
  | k + 1, k' + 1, ts, ts', r, t, gs, h, hz, hk, hp => by
    rw [fm] at hp ⊢
    cases h1 : zg9 e ts with
    | bad c a => rw [h1] at hp; cases hp
    | ok g r1 =>
      rw [h1] at hp
      cases r1 with
      | nil => cases hp
      | cons t1 r1 =>
        simp only at hp
        rcases yc6 s (e' := e') h h1 with ⟨c, a, q⟩ | ⟨g', r1', q, n1, n2, b1⟩
        · rw [q]; exact .inl ⟨c, a, rfl⟩
        · rw [q]
          cases r1' with
          | nil => exact b1.elim
          | cons t1' r1' =>
            simp only [b1.1.key]
            split at hp
            · rename_i hk2
              rw [if_pos hk2]
              cases h2 : fm e k r1 with
              | bad c a => rw [h2] at hp; cases hp
              | ok gs2 r2 =>
                rw [h2] at hp
                cases hp
                have sh := zeg q
                have sh1 := zeg h1
                simp at sh sh1
                rcases zp8 s (e' := e') (k' := k') b1.2 (by omega) (by omega) h2 with ⟨c, a, q2⟩ | ⟨gs', r2', q2, g2, b2⟩
                · rw [q2]; exact .inl ⟨c, a, rfl⟩
                · rw [q2]
                  refine .inr ⟨_, _, rfl, ?_, b2⟩
                  unfold SameGs at g2 ⊢
                  rw [List.map_cons, List.map_cons, g2, n1, n2]
            · rename_i hk2
              rw [if_neg hk2]
              cases hp
              refine .inr ⟨_, _, rfl, ?_, b1⟩
              unfold SameGs
              rw [List.map_cons, List.map_cons, n1, n2]
theorem zuk (s : zid R) {e e' : Nat} {rc : Bool} {ts ts' : List Tok} (h : bo R ts ts') : RelS R (zii e rc ts) (zii e' rc ts') := by
  unfold zii
  cases h1 : fm e (ts.length + 1) ts with
  | bad c a => trivial
  | ok gs r =>
    cases r with
    | nil =>
      cases fm e' (ts'.length + 1) ts' with
      | bad c a => exact RelS.bad _ _ _ _
      | ok gs' r' => exact .inl trivial
    | cons t r =>
      rcases zp8 s (e' := e') (k' := ts'.length + 1) h (by omega) (by omega) h1 with ⟨c, a, q⟩ | ⟨gs', r', q, g, b⟩
      · rw [q]; exact RelS.bad _ _ _ _
      · rw [q]; exact ⟨⟨rfl, g⟩, b⟩
theorem zkx (s : zid R) (ha : ∀ t r, R = t :: r → True) {e e' : Nat} {k : Ck} {ts ts' : List Tok} (h : bo R ts ts') : RelS R (zco e k ts) (zco e' k ts') := by
  have hs := zlk s e e' 32 ts ts' h
  have end_ : ∀ (x' : Ex) (r' : List Tok) (P : Stm → Prop), (∀ a', P (.chk k x' a')) → ∀ (s' : Stm) (r2 : List Tok), (match r' with
      | [] => PR.ok (Stm.chk k x' []) []
      | t :: r => if keyT t == wAs then (match zfd e' r with
        | .bad c a => .bad c a
        | .ok w r3 => .ok (.chk k x' w.1) r3) else .ok (.chk k x' []) (t :: r)) = .ok s' r2 → P s' := by
    intro x' r' P hP s' r2 he
    cases r' with
    | nil => cases he; exact hP _
    | cons t r =>
      simp only at he
      split at he
      · split at he
        · cases he
        · cases he; exact hP _
      · cases he; exact hP _
  unfold zco
  cases h1 : zfm e 32 ts with
  | bad c a => trivial
  | ok x r =>
    rw [h1] at hs
    cases h2 : zfm e' 32 ts' with
    | bad c a => exact RelS.bad _ _ _ _
    | ok x' r' =>
      rw [h2] at hs
      cases r with
      | nil =>
        simp only
        have key : ∀ (q : PR Stm), (∀ s' r2, q = .ok s' r2 → ∃ x' a', s' = .chk k x' a' ∧ (x'.er = x.er ∨ Clash x x')) → RelS R (.ok (.chk k x []) []) q := by
          intro q hq
          cases q with
          | bad c a => trivial
          | ok s' r2 => exact .inl (hq s' r2 rfl)
        rcases hs with ⟨hx, hr⟩ | ⟨t, ht, hr⟩ | hc
        · refine key _ fun s' r2 he => ?_
          exact end_ x' r' (fun s' => ∃ x' a', s' = .chk k x' a' ∧ (x'.er = x.er ∨ Clash x x')) (fun a' => ⟨x', a', rfl, .inl hx⟩) s' r2 (by cases r' <;> exact he)
        · subst hr
          have : (keyT t == wAs) = false := by rw [show keyT t = [42] from ht]; rfl
          simp only [this, Bool.false_eq_true, if_false]
          exact .inr ⟨t, _, ht, rfl⟩
        · refine key _ fun s' r2 he => ?_
          exact end_ x' r' (fun s' => ∃ x' a', s' = .chk k x' a' ∧ (x'.er = x.er ∨ Clash x x')) (fun a' => ⟨x', a', rfl, .inr hc⟩) s' r2 (by cases r' <;> exact he)
      | cons t r =>
        cases r' with
        | nil => exact hs.2.elim
        | cons t' r' =>
          obtain ⟨hx, hb⟩ := hs
          simp only [hb.1.key]
          split
          · cases h3 : zfd e r with
            | bad c a => trivial
            | ok w r3 =>
              obtain ⟨w', r3', q3, hw, b3⟩ := zp7 (e' := e') hb.2 h3
              rw [q3]
              cases r3 with
              | nil => exact .inl ⟨x', _, rfl, .inl hx⟩
              | cons _ _ => exact ⟨⟨rfl, hx, hw⟩, b3⟩
          · exact ⟨⟨rfl, hx, rfl⟩, hb⟩
theorem yc8 (s : zid R) {e e' : Nat} {ts ts' : List Tok} (h : bo R ts ts') : RelS R (ze1 e ts) (ze1 e' ts') := by
  cases ts with
  | nil => trivial
  | cons a l =>
    cases ts' with
    | nil => exact h.elim
    | cons b l' =>
      rw [ze1, ze1, h.1.key]
      split
      · cases l with
        | nil =>
          have : letP e [] = zii e false [] := rfl
          rw [this]
          have : zii e false [] = .bad 24 e := rfl
          rw [this]; trivial
        | cons c m =>
          cases l' with
          | nil => exact h.2.elim
          | cons d m' =>
            rw [letP, letP, h.2.1.key]
            split
            · exact zuk s h.2.2
            · exact zuk s h.2
      split
      · exact zkx s (fun _ _ _ => trivial) h.2
      split
      · exact zkx s (fun _ _ _ => trivial) h.2
      split
      · exact zkx s (fun _ _ _ => trivial) h.2
      · trivial
def zzx : List Stm → List Stm → Prop
  | [], [] => True
  | s :: l, s' :: l' => zyd s s' ∧ zzx l l'
  | _, _ => False
theorem zqv (s : zid R) {e e' : Nat} : ∀ {k k' : Nat} {ts ts' : List Tok} {l l' : List Stm}, bo R ts ts' → ts.length ≤ k → ts'.length ≤ k' → kf e k ts = .ok l [] → kf e' k' ts' = .ok l' [] → l = [] ∨ ∃ i x i' x' m, l = i ++ [x] ∧ l' = i' ++ x' :: m ∧ zzx i i' ∧ yec x x'
  | 0, _, ts, ts', l, l', h, hk, hk', hl, hl' => by
    have : ts = [] := List.eq_nil_of_length_eq_zero (by omega)
    subst this
    cases hl; exact .inl rfl
  | k + 1, k', [], ts', l, l', h, hk, hk', hl, hl' => by cases hl; exact .inl rfl
  | k + 1, 0, a :: ts, ts', l, l', h, hk, hk', hl, hl' => by
    cases ts' with
    | nil => exact h.elim
    | cons _ _ => simp at hk'
  | k + 1, k' + 1, a :: ts, [], l, l', h, hk, hk', hl, hl' => h.elim
  | k + 1, k' + 1, a :: ts, b :: ts', l, l', h, hk, hk', hl, hl' => by
    rw [kf] at hl hl'
    have hs := yc8 s (e := e) (e' := e') h
    cases h1 : ze1 e (a :: ts) with
    | bad c p => rw [h1] at hl; cases hl
    | ok x r =>
      cases h2 : ze1 e' (b :: ts') with
      | bad c p => rw [h2] at hl'; cases hl'
      | ok x' r' =>
        rw [h1, h2] at hs
        rw [h1] at hl
        rw [h2] at hl'
        simp only at hl hl'
        have q1 := (zc0 h1).1
        have q2 := (zc0 h2).1
        cases h3 : kf e k r with
        | bad c p => rw [h3] at hl; cases hl
        | ok l1 r1 =>
          rw [h3] at hl
          cases hl
          cases h4 : kf e' k' r' with
          | bad c p => rw [h4] at hl'; cases hl'
          | ok l1' r1' =>
            rw [h4] at hl'
            cases hl'
            simp at hk hk'
            cases r with
            | nil =>
              have e1 : l1 = [] := by cases k <;> (rw [kf] at h3; cases h3; rfl)
              subst e1
              rcases hs with hs | ⟨t, m, ht, hr⟩
              · exact .inr ⟨[], x, [], x', l1', rfl, rfl, trivial, hs⟩
              · exfalso
                subst hr
                cases k' with
                | zero => simp at q2; omega
                | succ k' =>
                  have hkt : keyT t = [42] := ht
                  rw [kf, ze1, hkt] at h4
                  cases h4
            | cons t r =>
              obtain ⟨hs1, hb⟩ := hs
              rcases zqv s hb (by omega) (by omega) h3 h4 with rfl | ⟨i, y, i', y', m, rfl, rfl, hi, hy⟩
              · exfalso
                cases k with
                | zero => simp at q1; omega
                | succ k => exact zy9 h3 rfl
              · exact .inr ⟨x :: i, y, x' :: i', y', m, rfl, rfl, ⟨hs1, hi⟩, hy⟩
end
theorem SameGs.cons {g g' : Gv} {gs gs' : List Gv} : SameGs (g :: gs) (g' :: gs') ↔ (g'.name = g.name ∧ g'.e.er = g.e.er) ∧ SameGs gs gs' := by
  unfold SameGs
  rw [List.map_cons, List.map_cons, List.cons.injEq, Prod.mk.injEq]
theorem SameGs.nil {gs' : List Gv} (h : SameGs [] gs') : gs' = [] := by unfold SameGs at h; simpa using h
theorem SameGs.nil' {gs : List Gv} (h : SameGs gs []) : gs = [] := by
  unfold SameGs at h
  cases gs with
  | nil => rfl
  | cons _ _ => simp at h
theorem zmv {gs gs' : List Gv} (h : SameGs gs gs') : gs'.map (·.name) = gs.map (·.name) := by
  have := congrArg (List.map Prod.fst) h
  simpa [List.map_map, Function.comp_def] using this
theorem yac {gs gs' : List Gv} (h : SameGs gs gs') : j8 gs' = j8 gs := by
  have := congrArg (List.map fun p : Bys × Ex => (p.1, p.2.set)) h
  simp only [List.map_map, Function.comp_def, Ex.er_set] at this
  exact this
theorem znd {kn : Kn} {rc : List Bys} {b : Bool} : ∀ {gs gs' l l' : List Gv}, SameGs gs gs' → zda kn rc b gs = .ok l → zda kn rc b gs' = .ok l' → SameGs l l'
  | [], gs', l, l', h, h1, h2 => by
    obtain rfl := h.nil
    cases h1; cases h2; exact rfl
  | g :: gs, [], l, l', h, h1, h2 => by cases h.nil'
  | g :: gs, g' :: gs', l, l', h, h1, h2 => by
    obtain ⟨⟨n, e⟩, hs⟩ := SameGs.cons.1 h
    rw [zda] at h1 h2
    cases hx : chkE kn rc false g.e with
    | bad c a => rw [hx] at h1; cases h1
    | ok x =>
      obtain ⟨x', q1, q2⟩ := ze0 e hx
      rw [hx] at h1
      rw [q1] at h2
      simp only at h1 h2
      split at h1
      · cases h1
      · split at h2
        · cases h2
        · cases h3 : zda kn rc b gs with
          | bad c a => rw [h3] at h1; cases h1
          | ok m =>
            cases h4 : zda kn rc b gs' with
            | bad c a => rw [h4] at h2; cases h2
            | ok m' =>
              rw [h3] at h1
              rw [h4] at h2
              cases h1; cases h2
              exact SameGs.cons.2 ⟨⟨n, q2⟩, znd hs h3 h4⟩
theorem zr4 {gs gs' : List Gv} (h : SameGs gs gs') : gs'.map (fun g => (g.name, false)) = gs.map fun g => (g.name, false) := by
  have := congrArg (List.map fun n : Bys => (n, false)) (zmv h)
  simpa only [List.map_map, Function.comp_def] using this
theorem yaj {kn : Kn} {n : Nat} {s s' m m' : Stm} (h : zyd s s') (h1 : chkS kn n s = .ok m) (h2 : chkS kn n s' = .ok m') : zyd m m' ∧ m'.given = m.given := by
  cases s with
  | chk k x a =>
    cases s' with
    | lets _ _ => exact h.elim
    | chk k' x' a' =>
      obtain ⟨rfl, hx, rfl⟩ := h
      rw [chkS] at h1 h2
      cases hy : chkE kn [] false x with
      | bad c a => rw [hy] at h1; cases h1
      | ok y =>
        obtain ⟨y', q1, q2⟩ := ze0 hx hy
        rw [hy] at h1
        rw [q1] at h2
        simp only at h1 h2
        split at h1
        · cases h1
        · split at h2
          · cases h2
          · cases h1; cases h2; exact ⟨⟨rfl, q2, rfl⟩, rfl⟩
  | lets rc gs =>
    cases s' with
    | chk _ _ _ => exact h.elim
    | lets rc' gs' =>
      obtain ⟨rfl, hg⟩ := h
      rw [chkS] at h1 h2
      cases hf : py kn n [] gs with
      | bad c a => rw [hf] at h1; cases h1
      | ok u =>
        cases hf' : py kn n [] gs' with
        | bad c a => rw [hf'] at h2; cases h2
        | ok u' =>
          rw [hf] at h1
          rw [hf', zr4 hg, zmv hg] at h2
          simp only at h1 h2
          split at h1
          · cases h1
          · rename_i l hl
            split at h2
            · cases h2
            · rename_i l' hl'
              cases h1; cases h2
              have hs := znd hg hl hl'
              exact ⟨⟨rfl, hs⟩, yac hs⟩
theorem zmw (u : U) (env : En) : ∀ {gs gs' : List Gv} (en : En), SameGs gs gs' → gs'.foldl (fun en g => setE g.name g.e.set (evE u env g.e) en) en = gs.foldl (fun en g => setE g.name g.e.set (evE u env g.e) en) en
  | [], gs', en, h => by obtain rfl := h.nil; rfl
  | g :: gs, [], en, h => by cases h.nil'
  | g :: gs, g' :: gs', en, h => by
    obtain ⟨⟨n, e⟩, hs⟩ := SameGs.cons.1 h
    rw [List.foldl_cons, List.foldl_cons, n, (zjd e).1, (zjd (u := u) (env := env) e).2]
    exact zmw u env _ hs
theorem zn2 : ∀ {gs gs' : List Gv} (en : En), SameGs gs gs' → zbd gs' en = zbd gs en
  | [], gs', en, h => by obtain rfl := h.nil; rfl
  | g :: gs, [], en, h => by cases h.nil'
  | g :: gs, g' :: gs', en, h => by
    obtain ⟨⟨n, e⟩, hs⟩ := SameGs.cons.1 h
    show zbd gs' (setE g'.name false v0 en) = zbd gs (setE g.name false v0 en)
    rw [n]; exact zn2 _ hs
theorem znq (u : U) : ∀ {gs gs' : List Gv} (p : En × Bool), SameGs gs gs' → gs'.foldl (zh5 u) p = gs.foldl (zh5 u) p
  | [], gs', p, h => by obtain rfl := h.nil; rfl
  | g :: gs, [], p, h => by cases h.nil'
  | g :: gs, g' :: gs', p, h => by
    obtain ⟨⟨n, e⟩, hs⟩ := SameGs.cons.1 h
    rw [List.foldl_cons, List.foldl_cons]
    have : zh5 u p g' = zh5 u p g := by unfold zh5; rw [n, (zjd e).1, (zjd (u := u) (env := p.1) e).2]
    rw [this]; exact znq u _ hs
theorem zpw (u : U) {gs gs' : List Gv} (h : SameGs gs gs') : ∀ (n : Nat) (en : En), recN u gs' n en = recN u gs n en
  | 0, _ => rfl
  | n + 1, en => by
    have : zb8 u gs' en = zb8 u gs en := znq u _ h
    rw [recN, recN, this, zpw u h n]
theorem ybn {gs gs' : List Gv} (h : SameGs gs gs') : gs'.length = gs.length := by
  have := congrArg List.length h; simpa using this
theorem ycf {u : U} {env : En} {m m' : Stm} (h : zyd m m') : doE u env m' = doE u env m ∧ zk4 u env m' = zk4 u env m := by
  cases m with
  | chk k x a =>
    cases m' with
    | lets _ _ => exact h.elim
    | chk k' x' a' =>
      obtain ⟨rfl, hx, rfl⟩ := h
      refine ⟨rfl, ?_⟩
      unfold zk4 zwc
      simp only [(zjd (u := u) (env := env) hx).1]
  | lets rc gs =>
    cases m' with
    | chk _ _ _ => exact h.elim
    | lets rc' gs' =>
      obtain ⟨rfl, hg⟩ := h
      refine ⟨?_, rfl⟩
      cases rc'
      · exact zmw u env env hg
      · show recN u gs' (recK gs') (zbd gs' env) = recN u gs (recK gs) (zbd gs env)
        rw [zn2 env hg, zpw u hg]
        unfold recK; rw [ybn hg]
theorem zt2 {u : U} : ∀ {i i' : List Stm} {x x' : Stm} {more la lb : List Stm} {kn : Kn} {n : Nat} {env : En}, zzx i i' → yec x x' → chkM kn n (i ++ [x]) = .ok la → chkM kn n (i' ++ x' :: more) = .ok lb → zak u env la ≠ none → zak u env lb ≠ none
  | [], [], x, x', more, la, lb, kn, n, env, hi, hx, ha, hb, hh => by
    rw [List.nil_append, chkM] at ha hb
    cases h1 : chkS kn n x with
    | bad c a => rw [h1] at ha; cases ha
    | ok m =>
      cases h2 : chkS kn n x' with
      | bad c a => rw [h2] at hb; cases hb
      | ok m' =>
        rw [h1] at ha
        rw [h2] at hb
        simp only [chkM] at ha hb
        cases ha
        cases h3 : chkM (kn ++ m'.given) (n + m'.given.length) more with
        | bad c a => rw [h3] at hb; cases hb
        | ok lb2 =>
          rw [h3] at hb
          cases hb
          rw [zak] at hh
          cases x with
          | lets rc gs =>
            exfalso
            rw [chkS] at h1
            split at h1
            · cases h1
            · split at h1
              · cases h1
              · cases h1; exact hh rfl
          | chk k y a =>
            obtain ⟨y', a', rfl, hy⟩ := hx
            rw [chkS] at h1 h2
            cases hy1 : chkE kn [] false y with
            | bad c p => rw [hy1] at h1; cases h1
            | ok z =>
              cases hy2 : chkE kn [] false y' with
              | bad c p => rw [hy2] at h2; cases h2
              | ok z' =>
                rw [hy1] at h1
                rw [hy2] at h2
                simp only at h1 h2
                split at h1
                · cases h1
                · split at h2
                  · cases h2
                  · cases h1; cases h2
                    rcases hy with he | hc
                    · obtain ⟨z2, q1, q2⟩ := ze0 he hy1
                      rw [hy2] at q1
                      cases q1
                      have hs : zk4 u env (.chk k z' a') = zk4 u env (.chk k z a) := by
                        unfold zk4 zwc
                        simp only [(zjd (u := u) (env := env) q2).1]
                      rw [zak, hs]
                      split
                      · rename_i h0
                        rw [if_pos h0] at hh
                        exact absurd rfl hh
                      · simp
                    · exact absurd hy2 (hc kn [] false z z' hy1)
  | [], s' :: i', x, x', more, la, lb, kn, n, env, hi, hx, ha, hb, hh => hi.elim
  | s :: i, [], x, x', more, la, lb, kn, n, env, hi, hx, ha, hb, hh => hi.elim
  | s :: i, s' :: i', x, x', more, la, lb, kn, n, env, hi, hx, ha, hb, hh => by
    obtain ⟨hs, hi⟩ := hi
    rw [List.cons_append, chkM] at ha hb
    cases h1 : chkS kn n s with
    | bad c a => rw [h1] at ha; cases ha
    | ok m =>
      cases h2 : chkS kn n s' with
      | bad c a => rw [h2] at hb; cases hb
      | ok m' =>
        obtain ⟨hm, hg⟩ := yaj hs h1 h2
        rw [h1] at ha
        rw [h2] at hb
        simp only at ha hb
        rw [hg] at hb
        cases h3 : chkM (kn ++ m.given) (n + m.given.length) (i ++ [x]) with
        | bad c a => rw [h3] at ha; cases ha
        | ok la2 =>
          cases h4 : chkM (kn ++ m.given) (n + m.given.length) (i' ++ x' :: more) with
          | bad c a => rw [h4] at hb; cases hb
          | ok lb2 =>
            rw [h3] at ha
            rw [h4] at hb
            cases ha; cases hb
            obtain ⟨d1, d2⟩ := ycf (u := u) (env := env) hm
            rw [zak] at hh ⊢
            rw [d1, d2]
            split
            · rename_i h0
              rw [if_pos h0] at hh
              exact zt2 hi hx h3 h4 hh
            · simp
/-- Does a text begin with no small letter? -/
def zg6 : Bys → Bool
  | [] => true
  | c :: l => if c.toNat == 32 || (c.toNat == 10 || c.toNat == 9) then zg6 l else !(decide (97 ≤ c.toNat) && decide (c.toNat ≤ 122))
theorem zmy : ∀ (b : Bys) (a : Nat) (m : List Tok), zg6 b = false → fi b a = .ok m → ∃ t r, m = t :: r ∧ t.kind = 1 ∧ ∃ c w, t.text = c :: w ∧ 97 ≤ c.toNat ∧ c.toNat ≤ 122
  | [], a, m, h, hs => by cases h
  | c :: b, a, m, h, hs => by
    rw [zg6] at h
    rw [zar (by simp), zcd] at hs
    by_cases hb : (c.toNat == 32 || (c.toNat == 10 || c.toNat == 9)) = true
    · rw [if_pos hb] at h
      have e : blkB (c.toNat : Int) = true := by
        unfold blkB
        simp only [Bool.or_eq_true, beq_iff_eq] at hb ⊢
        omega
      rw [if_pos e] at hs
      exact zmy b _ m h hs
    · rw [if_neg hb] at h
      have hl : 97 ≤ c.toNat ∧ c.toNat ≤ 122 := by simpa using h
      have e : ¬ blkB (c.toNat : Int) = true := by
        unfold blkB
        simp only [Bool.or_eq_true, beq_iff_eq]
        omega
      have e2 : [40, 42].isPrefixOf (c :: b) = false := by
        have : ((40 : UInt8) == c) = false := by
          rw [beq_eq_false_iff_ne]; rintro rfl; revert hl; decide
        simp [List.isPrefixOf, this]
      rw [if_neg e, e2] at hs
      simp only [Bool.false_eq_true, if_false, zcv] at hs
      have d : digV (c.toNat : Int) = false := by
        unfold digV
        rw [Bool.and_eq_false_iff]; right
        simp; omega
      have lt : (letV (c.toNat : Int) || (c.toNat : Int) == 95) = true := by
        unfold letV
        have q1 : decide ((97 : Int) ≤ (c.toNat : Int)) = true := decide_eq_true (by omega)
        have q2 : decide ((c.toNat : Int) ≤ 122) = true := decide_eq_true (by omega)
        rw [q1, q2]; rfl
      rw [d, lt] at hs
      simp only [Bool.false_eq_true, if_false, if_true] at hs
      obtain ⟨m', h1, rfl⟩ := zuu hs
      have hr : 1 ≤ rowN namB (c :: b) := zpk (by unfold namB numB; rw [Bool.or_eq_true] at lt; rcases lt with lt | lt <;> simp [lt])
      obtain ⟨k, hk⟩ : ∃ k, rowN namB (c :: b) = k + 1 := ⟨rowN namB (c :: b) - 1, by omega⟩
      refine ⟨_, m', rfl, rfl, c, b.take k, ?_, hl⟩
      simp only [hk, List.take_succ_cons]
theorem yb8 {R : List Tok} {t : Tok} {r : List Tok} (hR : R = t :: r) (hk : t.kind = 1) {c : UInt8} {w : Bys} (ht : t.text = c :: w) (h1 : 97 ≤ c.toNat) (h2 : c.toNat ≤ 122) : zid R := by
  subst hR
  refine ⟨by simp, fun t' r' h => ?_⟩
  cases h
  have key : keyT t = c :: w := by unfold keyT; rw [hk, ht]; rfl
  have no : ∀ x : UInt8, (x.toNat < 97 ∨ 122 < x.toNat) → ((c :: w : Bys) == [x]) = false := fun x hx => by
    rw [beq_eq_false_iff_ne]
    intro e
    cases e
    omega
  unfold orM andM seqM
  rw [key, no 124 (by decide), no 38 (by decide), no 92 (by decide), no 59 (by decide), no 43 (by decide), no 63 (by decide), no 42 (by decide), no 94 (by decide)]
  exact ⟨rfl, rfl, rfl, rfl, rfl, rfl, rfl⟩
theorem yfh (s : List UInt8) (a : Nat) : fi (10 :: s) a = fi s (a + 1) := by rw [zar (by simp)]; rfl
theorem zwj {a b : Bys} {names : Kn} {ma mb : Md} (ha : zaj a names = .ok ma) (hb : zaj (a ++ (32 :: 10 :: b)) names = .ok mb) (hal : zg6 b = false) (u : U) (bl : En) (h : zak u (env0 ma bl) ma.l ≠ none) : zak u (env0 mb bl) mb.l ≠ none := by
  obtain ⟨_, _, k1, ts1, l1, s1, m1, c1⟩ := zkp ha
  obtain ⟨_, _, k2, ts2, l2, s2, m2, c2⟩ := zkp hb
  have e0 : env0 mb bl = env0 ma bl := by unfold env0; rw [k1, k2]
  rw [zo4 (.inr ⟨_, rfl⟩) _ a 0 _ (Nat.le_refl _) s1, zvy, yfh] at s2
  obtain ⟨R, hR, rfl⟩ := zuu s2
  obtain ⟨t, r, hRt, hk, c, w, ht, h1, h2⟩ := zmy b _ R hal hR
  have n := yb8 hRt hk ht h1 h2
  rcases zqv n (zm9 R ts1) (Nat.le_refl _) (Nat.le_refl _) m1 m2 with rfl | ⟨i, x, i', x', m, rfl, rfl, hi, hx⟩
  · exfalso
    rw [chkM] at c1
    have : ma.l = [] := by injection c1 with c1; exact c1.symm
    rw [this] at h
    exact h rfl
  · rw [e0]
    exact zt2 hi hx c1 c2 h
theorem zf1 {a b : Nat} (h : a + b < 2 ^ 63) : IntKind.i64.wrap ((a : Int) + (b : Int)) = ((a + b : Nat) : Int) := by
  rw [← Int.natCast_add]; exact yax (by omega)
def MuI (S0 : Nat) (H : Heap) (ns bs : Value) (k : Nat) (st : St) : Prop := ∃ n : Nat, (∃ j : Nat → Value, st = ⟨[j 0, ns, bs, j 3, j 4, j 5, j 6, .int .i64 (n : Int), .int .i64 (k : Int), j 9, j 10, j 11, j 12, j 13, j 14, j 15, j 16, j 17, j 18, j 19, j 20, j 21, j 22, j 23, j 24, j 25, j 26, j 27, j 28, j 29, j 30, j 31, j 32, j 33, j 34, j 35, j 36, j 37, j 38, j 39, j 40, j 41, j 42, j 43, j 44, j 45, j 46, j 47, j 48, j 49, j 50, j 51, j 52, j 53, j 54, j 55], H⟩) ∧ S0 ≤ n ∧ n < 2 ^ 60
def MuP (S0 : Nat) (H : Heap) (bs : Value) (st : St) : Prop := ∃ n : Nat, (∃ j : Nat → Value, st = ⟨[j 0, j 1, bs, j 3, j 4, j 5, j 6, .int .i64 (n : Int), j 8, j 9, j 10, j 11, j 12, j 13, j 14, j 15, j 16, j 17, j 18, j 19, j 20, j 21, j 22, j 23, j 24, j 25, j 26, j 27, j 28, j 29, j 30, j 31, j 32, j 33, j 34, j 35, j 36, j 37, j 38, j 39, j 40, j 41, j 42, j 43, j 44, j 45, j 46, j 47, j 48, j 49, j 50, j 51, j 52, j 53, j 54, j 55], H⟩) ∧ S0 ≤ n ∧ n < 2 ^ 60
def MuJ (S0 : Nat) (H : Heap) (bs : Value) (k : Nat) (st : St) : Prop := ∃ n : Nat, (∃ j : Nat → Value, st = ⟨[j 0, j 1, bs, j 3, j 4, j 5, j 6, .int .i64 (n : Int), j 8, .int .i64 (k : Int), j 10, j 11, j 12, j 13, j 14, j 15, j 16, j 17, j 18, j 19, j 20, j 21, j 22, j 23, j 24, j 25, j 26, j 27, j 28, j 29, j 30, j 31, j 32, j 33, j 34, j 35, j 36, j 37, j 38, j 39, j 40, j 41, j 42, j 43, j 44, j 45, j 46, j 47, j 48, j 49, j 50, j 51, j 52, j 53, j 54, j 55], H⟩) ∧ S0 ≤ n ∧ n < 2 ^ 60
def MuQ (S0 : Nat) (H : Heap) (st : St) : Prop := ∃ n : Nat, (∃ j : Nat → Value, st = ⟨[j 0, j 1, j 2, j 3, j 4, j 5, j 6, .int .i64 (n : Int), j 8, j 9, j 10, j 11, j 12, j 13, j 14, j 15, j 16, j 17, j 18, j 19, j 20, j 21, j 22, j 23, j 24, j 25, j 26, j 27, j 28, j 29, j 30, j 31, j 32, j 33, j 34, j 35, j 36, j 37, j 38, j 39, j 40, j 41, j 42, j 43, j 44, j 45, j 46, j 47, j 48, j 49, j 50, j 51, j 52, j 53, j 54, j 55], H⟩) ∧ S0 ≤ n ∧ n < 2 ^ 60
set_option maxHeartbeats 4000000 in
theorem yf2 {l : Bys} {names : Kn} {ns : Value} {bl : En} {bs : Value} {h : Heap} (hns : Sl h ns 2 (names.map wq)) (hb : Sl h bs 35 (ft bl)) (h1 : l.length ≤ 2 ^ 50) (h2 : names.length ≤ 2 ^ 50) (h3 : bl.length ≤ 2 ^ 50) (h4 : ∀ d ∈ names, d.1.length ≤ 2 ^ 50) (h5 : ∀ p ∈ bl, p.1.length ≤ 2 ^ 50) :
    ∃ b, DF FF f4 [str l, ns, bs] h = some (.bool b, h) ∧ (b = false → l.length + names.length + bl.length ≤ 6000) := by
  have : ∃ v h', DF FF f4 [str l, ns, bs] h = some (v, h') ∧ (h' = h ∧ ∃ b, v = .bool b ∧ (b = false → l.length + names.length + bl.length ≤ 6000)) := by
    refine wz zhl ?_
    have ln : ∀ H, lenO H ns = some (.int .i64 (names.length : Int), H) := fun H => by rw [hns.len, List.length_map]
    have lb : ∀ H, lenO H bs = some (.int .i64 (bl.length : Int), H) := fun H => by rw [hb.len]; simp [ft]
    obtain ⟨S0, hS0⟩ : ∃ S0, S0 = l.length + names.length + bl.length := ⟨_, rfl⟩
    have w1 := zf1 (a := l.length) (b := names.length) (by omega)
    have w2 := zf1 (a := l.length + names.length) (b := bl.length) (by omega)
    rw [← hS0] at w2 ⊢
    simp only [zcp, z7, zb, z8, zn, zc, zo, zf, ze, zd, List.set_cons_succ, List.set_cons_zero, O_mv, yu, yg, j7, vj, List.cons_append, List.nil_append, List.length_cons, List.length_nil, Nat.reduceAdd, Nat.reduceSub, Nat.zero_add, zm, yb, zx, za, zh, zg, xp, ym, ym, ln, lb, w1, w2]
    refine bk 0 names.length (MuI S0 h ns bs) (MuP S0 h bs) ?_ ?_ _ ⟨S0, junk rfl, Nat.le_refl _, by omega⟩ ?_
    · rintro k st hk ⟨n, ⟨j, rfl⟩, e1, e2⟩
      have hkd : names[k]? = some names[k] := List.getElem?_eq_getElem hk
      obtain ⟨b', o, v, a1, a2⟩ := hns.atH (k := k) (by simpa using hk)
      have a3 : Heap.read1 h ⟨b', o, some v⟩ = some (str names[k].1) := zfr a2 (by simp [wq])
      have c1 : ((k : Int) < (names.length : Int)) = True := by simp; omega
      have hl := h4 names[k] (List.getElem_mem hk)
      by_cases hn : n ≤ 6000
      · have c2 : ((n : Int) ≤ 6000) = True := by simp; omega
        simp only [z7, zr, yl, zb, zw, z8, zn, ye, zc, xl, zo, zf, ze, zd, List.set_cons_succ, List.set_cons_zero, O_mv, yw, xf, yu, yg, j7, vh, zz, zk, vj, xy, zj9, zm, yb, zx, za, zi, xc, z6, Nat.add_zero, yp, xp, ym, decide_true, ln, c1, c2, decide_true, a1, a3, ym, zf1 (a := n) (b := names[k].1.length) (by omega), xm (k := k) (by omega)]
        exact ⟨_, junk rfl, by omega, by omega⟩
      · have c2 : ((n : Int) ≤ 6000) = False := by simp; omega
        simp only [z7, zr, w6, zb, zu, z8, zn, ye, zc, xl, zo, zf, ze, zd, List.set_cons_succ, List.set_cons_zero, O_mv, yw, xf, yu, yg, j7, xy, zj9, zm, yb, za, yx, gj, xj, decide_true, decide_false, ln, c1, c2, decide_true, decide_false, gj]
        exact ⟨_, junk rfl, e1, e2⟩
    · rintro st ⟨n, ⟨j, rfl⟩, e1, e2⟩
      have c1 : ((names.length : Int) < (names.length : Int)) = False := by simp
      simp only [z7, zr, w6, zb, zu, z8, zn, ye, zc, w5, zo, zf, ze, zd, List.set_cons_succ, List.set_cons_zero, O_mv, yw, xf, yu, yg, j7, xy, zm, yb, za, yx, gj, xj, decide_false, ln, c1, decide_false, gj]
      exact ⟨_, junk rfl, e1, e2⟩
    rintro st ⟨n, ⟨j, rfl⟩, e1, e2⟩
    simp only [z7, zb, z8, zn, zc, zf, List.set_cons_succ, List.set_cons_zero, O_mv, zm, yb, zx, za, yj]
    refine bk 2 bl.length (MuJ S0 h bs) (MuQ S0 h) ?_ ?_ _ ⟨n, junk rfl, e1, e2⟩ ?_
    · rintro k st hk ⟨n, ⟨j, rfl⟩, e1, e2⟩
      obtain ⟨b', o, v, a1, a2⟩ := hb.atH (k := k) (by simpa [ft] using hk)
      have a3 : Heap.read1 h ⟨b', o, some v⟩ = some (str bl[k].1) := zfr a2 (by simp only [ft, List.getElem_map]; rfl)
      have c1 : ((k : Int) < (bl.length : Int)) = True := by simp; omega
      have hl := h5 bl[k] (List.getElem_mem hk)
      by_cases hn : n ≤ 6000
      · have c2 : ((n : Int) ≤ 6000) = True := by simp; omega
        simp only [z7, zr, yl, zb, zw, z8, zn, ye, zc, xl, zo, zf, ze, zd, List.set_cons_succ, List.set_cons_zero, O_mv, yw, xf, yu, yg, j7, vh, zz, zk, vj, xy, zj9, zm, yb, zx, za, zi, xc, z6, Nat.add_zero, yp, xp, ym, decide_true, lb, c1, c2, decide_true, a1, a3, ym, zf1 (a := n) (b := bl[k].1.length) (by omega), xm (k := k) (by omega)]
        exact ⟨_, junk rfl, by omega, by omega⟩
      · have c2 : ((n : Int) ≤ 6000) = False := by simp; omega
        simp only [z7, zr, w6, zb, zu, z8, zn, ye, zc, xl, zo, zf, ze, zd, List.set_cons_succ, List.set_cons_zero, O_mv, yw, xf, yu, yg, j7, xy, zj9, zm, yb, za, yx, gj, xj, decide_true, decide_false, lb, c1, c2, decide_true, decide_false, gj]
        exact ⟨_, junk rfl, e1, e2⟩
    · rintro st ⟨n, ⟨j, rfl⟩, e1, e2⟩
      have c1 : ((bl.length : Int) < (bl.length : Int)) = False := by simp
      simp only [z7, zr, w6, zb, zu, z8, zn, ye, zc, w5, zo, zf, ze, zd, List.set_cons_succ, List.set_cons_zero, O_mv, yw, xf, yu, yg, j7, xy, zm, yb, za, yx, gj, xj, decide_false, lb, c1, decide_false, gj]
      exact ⟨_, junk rfl, e1, e2⟩
    rintro st ⟨n, ⟨j, rfl⟩, e1, e2⟩
    simp only [z7, xe, zb, z8, zn, zc, zo, zf, ze, zd, List.set_cons_succ, List.set_cons_zero, O_mv, yu, yg, zab, zm, yb, za, yj, wt, xt, eq_self]
    exact ⟨trivial, _, rfl, fun h => by simp at h; omega⟩
  obtain ⟨v, h', q, rfl, b, rfl, hb⟩ := this
  exact ⟨b, q, hb⟩
theorem yhg {x : Nat} (hx : x ≠ 0) : ((x : Int) == 0) = false := beq_eq_false_iff_ne.2 (by omega)
theorem ydl {x : Nat} (hx : x ≠ 0) : ((x : Int) != 0) = true := by rw [bne, yhg hx]; rfl
section
variable {P : RP}
end
theorem zu9 {H : Heap} {s : Value} {c bytes : Nat} {rows : List (List Value)} (hs : Sl H s c rows) (hroom : rows.length * bytes ≤ k8) : ∃ s' K, kh (H ++ [.cells [] 0 false]) c bytes (.slice (some ⟨H.length, 0, some 0⟩) 0 c) (zc9 (H ++ [.cells [] 0 false]) c s) = some (s', K) ∧ Sl K s' c rows ∧ Pre H K := by
  have e : Own H (H ++ [AObj.cells [] 0 false]) (.slice (some ⟨H.length, 0, some 0⟩) 0 c) c [] := ⟨.inr ⟨H.length, 0, Nat.le_refl _, rfl, by simp⟩, by simp⟩
  obtain ⟨s', K, q, o, p, _⟩ := e.append ((Pre.refl H).more _) (rows' := rows) (bytes := bytes) rfl hs.2 (by simpa using hroom)
  rw [hs.src]
  exact ⟨s', K, q, o.sl, p⟩
theorem zqi {text : Bys} {names : Kn} {ns : Value} {h : Heap} (g : Gl h) (hns : Sl h ns 2 (names.map wq)) (hnl : names.length ≤ 10000) :
    (∃ c a, zaj text names = .bad c a ∧ c ≠ 0 ∧ DF FF fd [str text, ns] h = some (tup [nilP, .int .i64 (c : Int), .int .i64 (a : Int)], h)) ∨
    ∃ md mb h', zaj text names = .ok md ∧ DF FF fd [str text, ns] h = some (tup [pt mb, .int .i64 0, .int .i64 0], h') ∧ ModP h' (fun z => h.length ≤ z ∧ z < h'.length) mb md ∧ Pre h h' ∧ MdOk md := by
  obtain ⟨v, h', q, r, p⟩ := zhn text names ns g hns hnl
  cases hR : zaj text names with
  | bad c a =>
    rw [hR] at r
    obtain ⟨rfl, rfl, hc⟩ := r
    exact .inl ⟨c, a, rfl, hc, q⟩
  | ok md =>
    have ok := (zkp hR).1
    rw [hR] at r
    obtain ⟨mb, rfl, M⟩ := r
    exact .inr ⟨md, mb, h', rfl, q, M, p, ok⟩
def AlI (b : Bys) (H : Heap) (k : Nat) (st : St) : Prop := (∃ j : Nat → Value, st = ⟨[str b, j 1, j 2, .int .i64 (k : Int), j 4, j 5, j 6, j 7, j 8, j 9, j 10, j 11, j 12, j 13, j 14, j 15, j 16, j 17, j 18, j 19, j 20, j 21, j 22, j 23, j 24, j 25, j 26, j 27, j 28, j 29, j 30], H⟩) ∧ zg6 (b.drop k) = zg6 b
set_option maxHeartbeats 4000000 in
theorem yeq (b : Bys) (h : Heap) (hb : b.length < 4611686018427387904) : DF FF pn [str b] h = some (.bool (zg6 b), h) := by
  refine wh zgy ?_
  simp only [zb5, z7, zb, z8, zn, zc, zf, List.set_cons_succ, List.set_cons_zero, O_mv, List.cons_append, List.nil_append, List.length_cons, List.length_nil, Nat.reduceSub, Nat.zero_add, zm, yb, zx, za, zh, zg]
  refine pq b.length (AlI b h) ?_ ?_ _ ⟨junk rfl, rfl⟩
  · rintro k st hk ⟨⟨j, rfl⟩, e⟩
    have c1 : ((k : Int) < (b.length : Int)) = True := by simp; omega
    have hd : b.drop k = b[k] :: b.drop (k + 1) := List.drop_eq_getElem_cons hk
    rw [hd, zg6] at e
    have q : ∀ x : Nat, ((b[k].toNat : Int) == (x : Int)) = (b[k].toNat == x) := fun x => by rw [Bool.eq_iff_iff]; simp; omega
    have q32 := q 32; have q10 := q 10; have q9 := q 9
    have q97 : decide ((97 : Int) ≤ (b[k].toNat : Int)) = decide (97 ≤ b[k].toNat) := by congr 1; apply propext; omega
    have q122 : decide ((b[k].toNat : Int) ≤ 122) = decide (b[k].toNat ≤ 122) := by congr 1; apply propext; omega
    simp only [Int.cast_ofNat_Int] at q32 q10 q9
    cases g1 : b[k].toNat == 32
    · cases g2 : b[k].toNat == 10
      · cases g3 : b[k].toNat == 9
        · rw [g1, g2, g3] at e
          simp only [Bool.or_self, Bool.false_eq_true, if_false] at e
          cases g4 : decide (97 ≤ b[k].toNat)
          · rw [g4] at e
            simp only [z7, zr, xe, yl, zb, zw, zu, z8, zn, ye, zc, yr, w5, zo, zf, ze, zd, List.set_cons_succ, List.set_cons_zero, O_mv, yw, xf, yu, yg, O_un, jy, xy, zbb, vp, Bool.not_false, zm, yb, zx, za, y5, xx, zbt, za2, xp, ym, j4, decide_true, ym, c1, decide_true, zet _ hk, q32, q10, q9, g1, g2, g3, q97, g4]
            rw [← e]; rfl
          · cases g5 : decide (b[k].toNat ≤ 122)
            · rw [g4, g5] at e
              simp only [z7, zr, xe, yl, zb, zw, zu, z8, zn, ye, zc, xl, yr, zo, zf, ze, zd, List.set_cons_succ, List.set_cons_zero, O_mv, yw, xf, yu, yg, O_un, jy, xy, zj9, zbb, vp, Bool.not_false, zm, yb, zx, za, y5, xx, zbt, za2, xp, ym, j4, decide_true, ym, c1, decide_true, zet _ hk, q32, q10, q9, g1, g2, g3, q97, g4, q122, g5]
              rw [← e]; rfl
            · rw [g4, g5] at e
              simp only [z7, zr, xe, yl, zb, zw, zu, z8, zn, ye, zc, xl, yr, zo, zf, ze, zd, List.set_cons_succ, List.set_cons_zero, O_mv, yw, xf, yu, yg, O_un, jy, xy, zj9, zbb, vp, Bool.not_true, zm, yb, zx, za, y5, xx, zbt, za2, xp, ym, j4, decide_true, ym, c1, decide_true, zet _ hk, q32, q10, q9, g1, g2, g3, q97, g4, q122, g5]
              rw [← e]; rfl
        · rw [g1, g2, g3] at e
          simp only [z7, zr, w6, yl, zb, zw, z8, zn, ye, zc, yr, zo, zf, ze, zd, List.set_cons_succ, List.set_cons_zero, O_mv, yw, xf, yu, yg, vj, jy, xy, zm, yb, zx, za, yx, yj, yp, xp, ym, j4, decide_true, ym, c1, decide_true, zet _ hk, q32, q10, q9, g1, g2, g3, xm (k := k) (by omega)]
          exact ⟨junk rfl, e⟩
      · rw [g1, g2] at e
        simp only [z7, zr, w6, yl, zb, zw, z8, zn, ye, zc, yr, wi, zo, zf, ze, zd, List.set_cons_succ, List.set_cons_zero, O_mv, yw, xf, yu, yg, vj, jy, xy, zm, yb, zx, za, yx, yj, yp, xp, ym, j4, decide_true, ym, c1, decide_true, zet _ hk, q32, q10, g1, g2, xm (k := k) (by omega)]
        exact ⟨junk rfl, e⟩
    · rw [g1] at e
      simp only [z7, zr, w6, yl, zb, zw, z8, zn, ye, zc, wi, zo, zf, ze, zd, List.set_cons_succ, List.set_cons_zero, O_mv, yw, xf, yu, yg, vj, jy, xy, zm, yb, zx, za, yx, yj, yp, xp, ym, j4, decide_true, ym, c1, decide_true, zet _ hk, q32, g1, xm (k := k) (by omega)]
      exact ⟨junk rfl, e⟩
  · rintro st ⟨⟨j, rfl⟩, e⟩
    have c1 : ((b.length : Int) < (b.length : Int)) = False := by simp
    rw [List.drop_length] at e
    simp only [z7, zr, w6, xe, zb, zu, z8, zn, zc, zo, zf, ze, zd, List.set_cons_succ, List.set_cons_zero, O_mv, yu, yg, xy, zm, yb, za, yx, yj, zbt, xj, xp, ym, decide_false, ym, c1, decide_false]
    rw [← e]; rfl
theorem ygl {o : Option Bys} (h : o ≠ none) : ∃ w, zjz o = tup [.bool false, str w] := by
  cases o with
  | none => exact absurd rfl h
  | some w => exact ⟨w, rfl⟩
theorem zje : zjz none = tup [.bool true, str []] := rfl
set_option maxHeartbeats 16000000 in
theorem zs0 {a b : Bys} {names : Kn} {ns : Value} {bl : En} {bs : Value} {u : U} {h : Heap} (g : Gl h) (hns : Sl h ns 2 (names.map wq)) (hb : Sl h bs 35 (ft bl)) (h1 : a.length ≤ 2 ^ 49) (h1' : b.length ≤ 2 ^ 49) (h2 : names.length ≤ 2 ^ 50) (h3 : bl.length ≤ 2 ^ 50) (h4 : ∀ d ∈ names, d.1.length ≤ 2 ^ 50) (h5 : ∀ p ∈ bl, p.1.length ≤ 2 ^ 50) :
    ∃ v h', DF FF bn [str a, str b, ns, .int .u32 (u.toNat : Int), bs] h = some (v, h') ∧ v = .bool true := by
  refine wz zfl ?_
  have a0 : je .add (str a) (str b) = some (str (a ++ b)) := zyv _ _ (by omega)
  obtain ⟨bm, qm, hm⟩ := yf2 (l := a ++ b) hns hb (by simp; omega) h2 h3 h4 h5
  have wl := zf1 (a := a.length) (b := b.length) (by omega)
  cases bm with
  | true => simp only [wm, z7, zr, xe, yl, zb, zw, zu, z8, zn, ye, zc, wi, zo, zf, ze, zd, List.set_cons_succ, List.set_cons_zero, O_mv, yw, xf, yu, yg, O_un, yf, List.map_cons, List.map_nil, vp, List.cons_append, List.nil_append, List.length_cons, List.length_nil, Nat.reduceAdd, Nat.reduceSub, Nat.zero_add, Bool.not_true, zm, yb, za, y5, zh, zg, xt, eq_self, yi, j2, zg2 g, a0, qm]
  | false =>
    have hm := hm rfl
    simp only [List.length_append] at hm
    by_cases hE : a.length + b.length ≤ 3000
    · have c1 : ((3000 : Int) < ((a.length + b.length : Nat) : Int)) = False := by simp; omega
      have a1 : je .add (str a) (str [32, 10]) = some (str (a ++ [32, 10])) := zyv _ _ (by simp; omega)
      have a2 : je .add (str (a ++ [32, 10])) (str b) = some (str (a ++ (32 :: 10 :: b))) := by
        have := zyv (a ++ [32, 10]) b (by simp; omega)
        rwa [List.append_assoc] at this
      obtain ⟨n1, K1, q1, s1, p1⟩ := zu9 (bytes := 24) hns (by simp [k8]; omega)
      have room2 : (ft bl).length * 152 ≤ k8 := by simp [k8, ft]; omega
      have first : ∃ (v : Value) (c : Nat) (x : Int) (H : Heap), DF FF fd [str a, n1] K1 = some (tup [v, .int .i64 (c : Int), .int .i64 x], H) ∧ Pre h H ∧ (c = 0 → ∃ md mb, v = pt mb ∧ zaj a names = .ok md ∧ ModP H (fun z => K1.length ≤ z ∧ z < H.length) mb md ∧ MdOk md) := by
        rcases zqi (text := a) (g.pre p1) s1 (by omega) with ⟨c, x, hR, hc, q⟩ | ⟨md, mb, H, hR, q, M, p, ok⟩
        · exact ⟨_, c, _, K1, q, p1, fun h => absurd h hc⟩
        · exact ⟨_, 0, 0, H, q, p1.trans p, fun _ => ⟨md, mb, rfl, hR, M, ok⟩⟩
      obtain ⟨v, c, x, H2, q2, p2, ha⟩ := first
      obtain ⟨n2, K3, q3, s3, p3⟩ := zu9 (bytes := 24) (hns.pre p2) (by simp [k8]; omega)
      have second : ∃ (v : Value) (c : Nat) (x : Int) (H : Heap), DF FF fd [str (a ++ (32 :: 10 :: b)), n2] K3 = some (tup [v, .int .i64 (c : Int), .int .i64 x], H) ∧ Pre K3 H ∧ (c = 0 → ∃ md mb, v = pt mb ∧ zaj (a ++ (32 :: 10 :: b)) names = .ok md ∧ ModP H (fun z => K3.length ≤ z ∧ z < H.length) mb md ∧ MdOk md) := by
        rcases zqi (text := a ++ (32 :: 10 :: b)) (g.pre (p2.trans p3)) s3 (by omega) with ⟨c, x, hR, hc, q⟩ | ⟨md, mb, H, hR, q, M, p, ok⟩
        · exact ⟨_, c, _, K3, q, Pre.refl _, fun h => absurd h hc⟩
        · exact ⟨_, 0, 0, H, q, p, fun _ => ⟨md, mb, rfl, hR, M, ok⟩⟩
      obtain ⟨v', c', x', H4, q4, p4, hb'⟩ := second
      by_cases hc : c = 0
      · obtain ⟨ma, mb, rfl, hRa, M, ok⟩ := ha hc
        subst hc
        by_cases hc' : c' = 0
        · obtain ⟨md, mb', rfl, hRb, M', ok'⟩ := hb' hc'
          subst hc'
          simp only [Int.cast_ofNat_Int] at q2 q4
          have M4 := M.keep fun b o _ ho => (p3.trans p4).kept b o ho
          obtain ⟨v5, H5, q5, o5, p5⟩ := zgb M'
          have M5 := M4.keep fun b o _ ho => p5.kept b o ho
          have M5' := M'.keep fun b o _ ho => p5.kept b o ho
          obtain ⟨v6, H6, q6, o6, p6⟩ := zgb M5
          have l5 := fun K => o5.len K
          have l6 := fun K => o6.len K
          simp only [List.length_map] at l5 l6
          have M6 := M5.keep fun b o _ ho => p6.kept b o ho
          have M6' := M5'.keep fun b o _ ho => p6.kept b o ho
          have pH6 : Pre h H6 := (((p2.trans p3).trans p4).trans p5).trans p6
          by_cases hlt : (b5 md.l).length < (b5 ma.l).length
          · have c2 : (((b5 md.l).length : Int) < ((b5 ma.l).length : Int)) = True := by simp; omega
            simp only [wm, z7, zr, xe, yl, zb, zw, zu, z8, zn, ye, zc, yr, zo, zf, ze, zd, List.set_cons_succ, List.set_cons_zero, O_mv, yw, xf, yu, yg, O_un, yf, List.map_cons, List.map_nil, j7, ww, wd, yc, xb, yz, vj, zit, xy, zab, vp, List.cons_append, List.nil_append, List.length_cons, List.length_nil, Nat.reduceAdd, Nat.reduceSub, Nat.zero_add, Bool.not_true, zm, yb, za, y5, slc, qv, xg, y7, zh, zg, List.getElem?_cons_zero, List.getElem?_cons_succ, xt, eq_self, yi, xp, ym, Int.reduceBNe, decide_true, decide_false, j2, zg2 g, a0, a1, a2, qm, ym, wl, c1, decide_false, decide_true, wd, slc, q1, q2, q3, q4, q5, q6, l5, l6, c2]
          · have c2 : (((b5 md.l).length : Int) < ((b5 ma.l).length : Int)) = False := by simp; omega
            obtain ⟨n7, K7, q7, s7, p7⟩ := zu9 (bytes := 152) (hb.pre pH6) room2
            have q8 := ze5 (u := u) (M6.keep fun b o _ ho => p7.kept b o ho) ok s7 (by omega)
            obtain ⟨n9, K9, q9, s9, p9⟩ := zu9 (bytes := 152) (hb.pre (pH6.trans p7)) room2
            have M9 := M6.keep fun b o _ ho => (p7.trans p9).kept b o ho
            have M9' := M6'.keep fun b o _ ho => (p7.trans p9).kept b o ho
            have q10 := ze5 (u := u) M9' ok' s9 (by omega)
            cases hx : zak u (env0 ma bl) ma.l with
            | none =>
              rw [hx, zje] at q8
              cases hy : zak u (env0 md bl) md.l with
              | none =>
                rw [hy, zje] at q10
                simp only [wm, z7, zr, xe, yl, zb, zu, z8, zn, ye, zc, yr, w5, zo, zf, ze, zd, List.set_cons_succ, List.set_cons_zero, O_mv, yw, xf, yu, yg, O_un, yf, List.map_cons, List.map_nil, j7, ww, wd, yc, xb, yz, vj, zit, xy, zab, vp, List.cons_append, List.nil_append, List.length_cons, List.length_nil, Nat.reduceAdd, Nat.reduceSub, Nat.zero_add, Bool.not_true, zm, yb, za, slc, qv, xg, y7, zh, zg, List.getElem?_cons_zero, List.getElem?_cons_succ, xt, eq_self, yi, xp, ym, Int.reduceBNe, decide_false, j2, kg, zg2 g, a0, a1, a2, qm, ym, wl, c1, decide_false, wd, slc, q1, q2, q3, q4, q5, q6, l5, l6, c2, q7, q8, q9, q10]
              | some w =>
                rw [hy] at q10
                simp only [zjz] at q10
                simp only [wm, z7, zr, xe, yl, zb, zu, z8, zn, ye, zc, yr, w5, zo, zf, ze, zd, List.set_cons_succ, List.set_cons_zero, O_mv, yw, xf, yu, yg, O_un, yf, List.map_cons, List.map_nil, j7, ww, wd, yc, xb, yz, vj, zit, xy, zab, vp, List.cons_append, List.nil_append, List.length_cons, List.length_nil, Nat.reduceAdd, Nat.reduceSub, Nat.zero_add, Bool.not_true, zm, yb, za, slc, qv, xg, y7, zh, zg, List.getElem?_cons_zero, List.getElem?_cons_succ, xt, eq_self, yi, xp, ym, Int.reduceBNe, decide_false, j2, kg, zg2 g, a0, a1, a2, qm, ym, wl, c1, decide_false, wd, slc, q1, q2, q3, q4, q5, q6, l5, l6, c2, q7, q8, q9, q10]
            | some w0 =>
              rw [hx] at q8
              simp only [zjz] at q8
              cases hy : zak u (env0 md bl) md.l with
              | some w =>
                rw [hy] at q10
                simp only [zjz] at q10
                simp only [wm, z7, zr, xe, yl, zb, zu, z8, zn, ye, zc, xl, yr, w5, zo, zf, ze, zd, List.set_cons_succ, List.set_cons_zero, O_mv, yw, xf, yu, yg, O_un, yf, List.map_cons, List.map_nil, j7, ww, wd, yc, xb, yz, vj, zit, xy, zab, vp, List.cons_append, List.nil_append, List.length_cons, List.length_nil, Nat.reduceAdd, Nat.reduceSub, Nat.zero_add, Bool.not_true, Bool.not_false, zm, yb, za, slc, qv, xg, y7, zh, zg, List.getElem?_cons_zero, List.getElem?_cons_succ, xt, eq_self, yi, xp, ym, Int.reduceBNe, decide_false, j2, kg, zg2 g, a0, a1, a2, qm, ym, wl, c1, decide_false, wd, slc, q1, q2, q3, q4, q5, q6, l5, l6, c2, q7, q8, q9, q10]
              | none =>
                rw [hy, zje] at q10
                have hal : zg6 b = true := by
                  cases hal : zg6 b with
                  | true => rfl
                  | false => exact absurd hy (zwj hRa hRb hal u bl (by rw [hx]; simp))
                have qa := fun H => yeq b H (by omega)
                rw [hal] at qa
                obtain ⟨v11, H11, q11, o11, p11⟩ := zi8 M9'
                obtain ⟨v12, H12, q12, o12, p12⟩ := zi8 (M9.keep fun b o _ ho => p11.kept b o ho)
                have l11 := fun K => o11.len K
                have l12 := fun K => o12.len K
                simp only [List.length_map] at l11 l12
                cases g12 : decide (((zc2 ma.l).length : Int) ≤ ((zc2 md.l).length : Int))
                · simp only [wm, z7, zr, xe, yl, zb, zu, z8, zn, ye, zc, xl, yr, zo, zf, ze, zd, List.set_cons_succ, List.set_cons_zero, O_mv, yw, xf, yu, yg, O_un, yf, List.map_cons, List.map_nil, j7, ww, wd, yc, xb, yz, vj, zit, xy, zab, zbb, vp, List.cons_append, List.nil_append, List.length_cons, List.length_nil, Nat.reduceAdd, Nat.reduceSub, Nat.zero_add, Bool.not_true, Bool.not_false, zm, yb, za, slc, qv, xg, y7, zh, zg, List.getElem?_cons_zero, List.getElem?_cons_succ, xt, eq_self, yi, xp, ym, Int.reduceBNe, decide_false, j2, kg, zg2 g, a0, a1, a2, qm, ym, wl, c1, decide_false, wd, slc, q1, q2, q3, q4, q5, q6, l5, l6, c2, q7, q8, q9, q10, q11, q12, l11, l12, g12]
                · simp only [wm, z7, zr, xe, yl, zb, zw, zu, z8, zn, ye, zc, xl, yr, zo, zf, ze, zd, List.set_cons_succ, List.set_cons_zero, O_mv, yw, xf, yu, yg, O_un, yf, List.map_cons, List.map_nil, j7, ww, wd, yc, xb, yz, vj, zit, xy, zab, zbb, vp, List.cons_append, List.nil_append, List.length_cons, List.length_nil, Nat.reduceAdd, Nat.reduceSub, Nat.zero_add, Bool.not_true, Bool.not_false, zm, yb, za, y5, slc, qv, xg, y7, zh, zg, List.getElem?_cons_zero, List.getElem?_cons_succ, xt, eq_self, yi, xp, ym, Int.reduceBNe, decide_false, j2, kg, zg2 g, a0, a1, a2, qm, ym, wl, c1, decide_false, wd, slc, q1, q2, q3, q4, q5, q6, l5, l6, c2, q7, q8, q9, q10, q11, q12, l11, l12, g12, qa]
        · simp only [Int.cast_ofNat_Int] at q2
          simp only [wm, z7, zr, xe, yl, zb, zw, zu, z8, zn, ye, zc, yr, zo, zf, ze, zd, List.set_cons_succ, List.set_cons_zero, O_mv, yw, xf, yu, yg, O_un, yf, List.map_cons, List.map_nil, ww, wd, yc, xb, yz, vj, zit, zab, vp, List.cons_append, List.nil_append, List.length_cons, List.length_nil, Nat.reduceAdd, Nat.reduceSub, Nat.zero_add, Bool.not_true, zm, yb, za, y5, slc, qv, xg, y7, zh, zg, List.getElem?_cons_zero, List.getElem?_cons_succ, xt, eq_self, yi, xp, ym, Int.reduceBNe, decide_false, j2, zg2 g, a0, a1, a2, qm, ym, wl, c1, decide_false, wd, slc, q1, q2, q3, q4, ydl hc']
      · simp only [wm, z7, zr, xe, yl, zb, zw, zu, z8, zn, ye, zc, yr, wi, zo, zf, ze, zd, List.set_cons_succ, List.set_cons_zero, O_mv, yw, xf, yu, yg, O_un, yf, List.map_cons, List.map_nil, ww, wd, yc, xb, yz, vj, zit, zab, vp, List.cons_append, List.nil_append, List.length_cons, List.length_nil, Nat.reduceAdd, Nat.reduceSub, Nat.zero_add, Bool.not_true, zm, yb, za, y5, slc, qv, xg, y7, zh, zg, List.getElem?_cons_zero, List.getElem?_cons_succ, xt, eq_self, yi, xp, ym, decide_false, j2, zg2 g, a0, a1, a2, qm, ym, wl, c1, decide_false, wd, slc, q1, q2, q3, q4, ydl hc]
    · have c1 : ((3000 : Int) < ((a.length + b.length : Nat) : Int)) = True := by simp; omega
      simp only [wm, z7, zr, xe, yl, zb, zw, zu, z8, zn, ye, zc, yr, zo, zf, ze, zd, List.set_cons_succ, List.set_cons_zero, O_mv, yw, xf, yu, yg, O_un, yf, List.map_cons, List.map_nil, vj, zab, vp, List.cons_append, List.nil_append, List.length_cons, List.length_nil, Nat.reduceAdd, Nat.reduceSub, Nat.zero_add, Bool.not_true, zm, yb, za, y5, zh, zg, xt, eq_self, yi, xp, ym, decide_true, j2, zg2 g, a0, qm, ym, wl, c1, decide_true]
theorem Gl.of {h : Heap} {m : Int} {u : TypeId} (hg : ∀ (i : Nat) (l : List Value), ([[.int .i64 m], [.iface u (.chan (some 0))]] : List (List Value))[i]? = some l → h[i]? = some (AObj.cells l 0 true)) : Gl h :=
  ⟨⟨m, hg 0 _ rfl⟩, _, hg 1 _ rfl, rfl⟩
theorem zqd {h : Heap} {u : Value} (ht : Typed h .str u) : ∃ l : Bys, u = str l ∧ l.length ≤ 2 ^ 50 := by
  cases ht with
  | str s hs => exact ⟨s.data.toList, by rw [ydm], by unfold reachBytes at hs; rw [Array.length_toList]; show s.size ≤ _; omega⟩
theorem ztk {h : Heap} {u : Value} (ht : zm6 h (false, [(.slice 24 [.str, .bool])]) u) : ∃ names : Kn, Sl h u 2 (names.map wq) ∧ names.length ≤ 2 ^ 50 ∧ ∀ d ∈ names, d.1.length ≤ 2 ^ 50 := by
  obtain ⟨rows, h1, h2, h3⟩ := zk0 (by simp) ht
  obtain ⟨names, rfl, hn⟩ := zsx (p := fun d : Bys × Bool => d.1.length ≤ 2 ^ 50) (f := wq) rows fun r hr => by
    have t := h2 r hr
    obtain ⟨a, ha, ta⟩ := zcg t (i := 0) rfl
    obtain ⟨b, hb, tb⟩ := zcg t (i := 1) rfl
    obtain ⟨l, rfl, hl⟩ := zqd ta
    cases tb with
    | bool b =>
      have hlen := t.1
      match r, hlen, ha, hb with
      | [x, y], _, ha, hb =>
        cases ha; cases hb
        exact ⟨(l, b), rfl, hl⟩
  refine ⟨names, by simpa using h1, ?_, hn⟩
  unfold reachBytes at h3; simp at h3; omega
theorem zql {h : Heap} {u : Value} (ht : zm6 h (false, [(.slice 152 ([.str] ++ [.bool] ++ List.replicate 33 (.int .u32)))]) u) : ∃ bl : En, Sl h u 35 (ft bl) ∧ bl.length ≤ 2 ^ 50 ∧ ∀ p ∈ bl, p.1.length ≤ 2 ^ 50 := by
  obtain ⟨rows, h1, h2, h3⟩ := zk0 (by simp) ht
  obtain ⟨bl, rfl, hn⟩ := zsx (p := fun d : Bys × Bool × Vv => d.1.length ≤ 2 ^ 50) (f := fun p => vw p.1 p.2.1 p.2.2) rows fun r hr => by
    have t := h2 r hr
    obtain ⟨a, ha, ta⟩ := zcg t (i := 0) rfl
    obtain ⟨b, hb, tb⟩ := zcg t (i := 1) rfl
    obtain ⟨c, hc, tc⟩ := zcg t (i := 2) rfl
    obtain ⟨l, rfl, hl⟩ := zqd ta
    cases tb with
    | bool b =>
      cases tc with
      | int k n hw =>
        obtain ⟨x, rfl⟩ := u_of hw
        have hlen := t.1
        match r, hlen, ha, hb, hc, t with
        | v1 :: v2 :: v3 :: m, hlen, ha, hb, hc, t =>
          cases ha; cases hb; cases hc
          have tm : TypedL h (List.replicate 32 (.int .u32)) m := ⟨by simp at hlen ⊢; omega, fun i s v hs hv => t.2 (i + 3) s v (by simpa [List.replicate_succ] using hs) (by simpa using hv)⟩
          obtain ⟨f, rfl⟩ := zvu tm
          exact ⟨(l, b, ⟨x, f⟩), rfl, hl⟩
  refine ⟨bl, by simpa [ft] using h1, ?_, hn⟩
  unfold reachBytes at h3; simp at h3; omega
theorem zm3 {h : Heap} {u : Value} (ht : Typed h .str u) : ∃ l : Bys, u = str l ∧ l.length ≤ 2 ^ 49 := by
  cases ht with
  | str s hs => exact ⟨s.data.toList, by rw [ydm], by unfold reachBytes at hs; rw [Array.length_toList]; show s.size ≤ _; omega⟩
theorem catMore_law {m : Int} {t : TypeId} (h : Heap) (us : List Value) (hg : ∀ (i : Nat) (l : List Value), ([[.int .i64 m], [.iface t (.chan (some 0))]] : List (List Value))[i]? = some l → h[i]? = some (AObj.cells l 0 true)) (ht : zon h [(false, [.str]), (false, [.str]), (false, [(.slice 24 [.str, .bool])]), (false, [(.int .u32)]), (false, [(.slice 152 ([.str] ++ [.bool] ++ List.replicate 33 (.int .u32)))])] us) : ∃ h', DF FF bn us h = some (.bool true, h') := by
  match us, ht with
  | [u1, u2, u3, u4, u5], ht =>
    obtain ⟨a, rfl, h1⟩ := zm3 (ht.1.2 0 _ _ rfl rfl)
    obtain ⟨b, rfl, h1'⟩ := zm3 (ht.2.1.2 0 _ _ rfl rfl)
    obtain ⟨names, s2, h2, h4⟩ := ztk ht.2.2.1
    obtain ⟨u, rfl⟩ := zxh ht.2.2.2.1
    obtain ⟨bl, s3, h3, h5⟩ := zql ht.2.2.2.2.1
    obtain ⟨v, h', e, rfl⟩ := zs0 (u := u) (Gl.of hg) s2 s3 h1 h1' h2 h3 h4 h5
    exact ⟨h', e⟩
theorem mixed : Tryz.prog.follows .mixedOrders = true := by kernel_rfl
theorem yhj : (Tryz.prog.funcs.all fun f => f.name != "runtime.NumGoroutine") = true := by kernel_rfl
theorem reads : yb9 Tryz.prog GG FF := by
  refine ⟨fun f fn hf => ?_, yci (by decide)⟩
  have hf : (if zls f then none else (Tryz.prog.funcs[f]?).bind (zkq Tryz.prog GG ((ords.lookup f).getD []))) = some fn := hf
  split at hf
  · cases hf
  obtain ⟨pf, hp, hn⟩ := Option.bind_eq_some_iff.1 hf
  refine ⟨pf, _, hp, hn, ?_⟩
  have := Array.all_eq_true'.1 yhj pf (Array.mem_of_getElem? hp)
  simpa using this
section
/-- A listed variable's own cells, and what they read as. -/
theorem zt8 {P : Program} {W : World} : ∀ {laid : List (String × DataW Unit)} {ps : List MemPlace} {n : String} {d : DataW Unit}, DataW.LaidVars P W laid ps → (n, d) ∈ laid →
    ∃ g t cs fuel p, P.globalNamed n = some g ∧ (P.globals[g]?).map (·.type) = some t ∧ W.var? P n = some cs ∧ DataW.trod (fun _ => ()) P W 0 (fun _ => true) false fuel t cs.toList = some (d, p) ∧ ∀ i, i < cs.size → MemPlace.cell g i ∈ ps
  | [], ps, n, d, h, hm => by cases hm
  | (m, e) :: r, ps, n, d, h, hm => by
    obtain ⟨g, t, cs, fuel, p, q, h1, h2, h3, h4, h5, rfl⟩ := h
    rcases List.mem_cons.1 hm with hm | hm
    · cases hm
      refine ⟨g, t, cs, fuel, p, h1, h2, h3, h4, fun i hi => ?_⟩
      simp only [MemPlace.row, List.mem_append, List.mem_map, List.mem_range]
      exact .inl (.inl ⟨i, hi, by simp⟩)
    · obtain ⟨g', t', cs', fuel', p', k1, k2, k3, k4, k5⟩ := zt8 h5 hm
      exact ⟨g', t', cs', fuel', p', k1, k2, k3, k4, fun i hi => List.mem_append_right _ (k5 i hi)⟩
theorem zpo {P : Program} {W : World} {fuel : Nat} {u : TypeId} {cs : List Value} {d : DataW Unit} {p : List MemPlace} (h : DataW.trod (fun _ => ()) P W 0 (fun _ => true) false fuel u cs = some (.ptr d, p)) : ∃ e, P.underlying u = some (.pointer e) := by
  cases fuel with
  | zero => simp [DataW.trod] at h
  | succ fuel =>
    unfold DataW.trod at h
    split at h
    all_goals first
      | (rename_i hu; exact ⟨_, hu⟩)
      | (exfalso; simp at h; done)
      | (exfalso; simp only [Option.map_eq_some_iff] at h; obtain ⟨_, _, h⟩ := h; cases h; done)
      | (exfalso; split at h
         · simp only [Option.map_eq_some_iff, Option.bind_eq_some_iff] at h
           first
             | (obtain ⟨_, _, _, _, h⟩ := h; cases h; done)
             | (obtain ⟨_, _, h⟩ := h; cases h; done)
             | cases h
         · cases h
         done)
      | (exfalso; split at h <;> (first | (cases h; done) | (simp at h; done) | (simp only [Option.map_eq_some_iff] at h; obtain ⟨_, _, h⟩ := h; cases h; done)); done)
      | (exfalso; split at h
         · split at h
           · simp only [Option.bind_eq_some_iff] at h
             obtain ⟨_, _, h⟩ := h
             split at h <;> cases h
           · cases h
         · cases h)
theorem zmo {P : Program} {W : World} {fuel : Nat} {t : TypeId} {ms : Array (String × TypeId)} {cs : List Value} {nm : String} {d : DataW Unit} {p : List MemPlace} (hu : P.underlying t = some (.interface ms)) (h : DataW.trod (fun _ => ()) P W 0 (fun _ => true) false fuel t cs = some (.iface nm (.ptr d), p)) :
    ∃ u v e, cs = [.iface u v] ∧ P.underlying u = some (.pointer e) := by
  cases fuel with
  | zero => simp [DataW.trod] at h
  | succ fuel =>
    unfold DataW.trod at h
    rw [hu] at h
    split at h <;> (first | (rename_i he; cases he; done) | (simp at h; done) | skip)
    · rename_i u v _
      split at h
      · simp at h
      · obtain ⟨y, h1, h2⟩ := Option.map_eq_some_iff.1 h
        obtain ⟨y1, y2⟩ := y
        simp only [Prod.mk.injEq, DataW.iface.injEq] at h2
        obtain ⟨⟨_, rfl⟩, _⟩ := h2
        obtain ⟨e, he⟩ := zpo h1
        exact ⟨u, v, e, rfl, he⟩
      · cases h
theorem sentinel_cell {P : Program} {W : World} {laid : List (String × DataW Unit)} {n nm : String} {d : DataW Unit} {g : Nat} {t : TypeId} {ms : Array (String × TypeId)} (hL : laidMet P laid W) (hm : (n, .iface nm (.ptr d)) ∈ laid) (hg : P.globalNamed n = some g) (ht : (P.globals[g]?).map (·.type) = some t) (hu : P.underlying t = some (.interface ms)) :
    ∃ u q, W.cell? ⟨g, 0, none⟩ = some (.iface u (.pointer q)) := by
  obtain ⟨ps, hv, _, hok⟩ := hL
  obtain ⟨g', t', cs, fuel, p, k1, k2, k3, k4, k5⟩ := zt8 hv hm
  obtain rfl := Option.some.inj (hg.symm.trans k1)
  obtain rfl := Option.some.inj (ht.symm.trans k2)
  obtain ⟨u, v, e, hcs, hp⟩ := zmo hu k4
  have hc := World.var?_cell hg k3 0
  have h0 : cs[0]? = some (.iface u v) := by rw [← Array.getElem?_toList, hcs]; rfl
  rw [h0] at hc
  have hsz : 0 < cs.size := by
    have := congrArg List.length hcs; simp at this; omega
  have := (hok g 0 (k5 0 hsz)).2 u v hc
  obtain ⟨a, rfl⟩ := Go.WideShapes.okWide_pointer hp this
  exact ⟨u, a, hc⟩
variable {H : Type} {enc : TypeId × Value → H}
theorem returns_shaped {a : Assume} {C : Checked} {os : Os} {f : FuncId} {fn : Func} {s : ChangeSpec} {conds : List PathCond} {apart fresh handsOn again : Bool} {X : World → Array Value → Prop}
    (hX : ∀ (w w' : World) (args : Array Value), w.heap = w'.heap → X w args → X w' args)
    (own : ownKnob C.prog.godebug = none) (started : os.Started) (noInit : C.prog.inits.idxOf? f = none) (hfn : C.prog.funcs[f]? = some fn)
    (witness : ∃ (w : World) (tape : Tape) (i : Input), w.os = os ∧ (w.forCall tape i).Shaped C.prog ∧ i.vars = [] ∧ Input.okWide C.prog (w.forCall tape i) .any w.heap.size f i ∧
      ((s.pre enc C.prog fn conds apart (w.forCall tape i).memory i.args ∧ X (w.forCall tape i).memory i.args) ∧ sizedMet enc C.prog fn (OpenSpec.ofChange s) apart (w.forCall tape i).memory i.args) ∧ a.holds C.prog (lone (Frame.enter C.prog f i.args .normal) [] (w.forCall tape i)))
    (contract : ∀ (W : World) (base : Nat) (args : Array Value) (ds gs : List (DataW H)) (before : List MemPlace),
      (∀ (j : Nat) t v, fn.params[j]? = some t → args[j]? = some v → Value.okWide C.prog W .any base t v) →
      DataW.Whole enc C.prog fn.params.toList s.vars apart W args.toList ds gs before →
      (DataW.weightsEach C.prog (fn.params.toList ++ s.plain.varTypes C.prog) (ds ++ gs)).all (· ≤ reachBytes) = true → X W args → W.ShapedOpen C.prog →
      Calls C.prog f args W fun e W' => ∃ v, e = .returned v ∧ s.post enc C.prog fn apart fresh handsOn again W args v W') :
    ReturnsInHanded a C os f .any (fun w args => (s.pre enc C.prog fn conds apart w args ∧ X w args) ∧ sizedMet enc C.prog fn (OpenSpec.ofChange s) apart w args) (s.post enc C.prog fn apart fresh handsOn again) := by
  refine returnsInHanded_of_calls own started noInit witness ?_
  intro w tape i _ hsh _ hok hpre _
  obtain ⟨_, _, _, fn', hfn', _, _, _, _, hval⟩ := hok
  obtain rfl : fn' = fn := Option.some.inj (hfn'.symm.trans hfn)
  obtain ⟨⟨⟨ds, gs, before, hw, hc⟩, hx⟩, hz⟩ := hpre
  refine (contract (w.forCall tape i) w.heap.size i.args ds gs before hval (DataW.Whole.of_heap (w' := w.forCall tape i) (by rfl) hw) (hz.weights hw) (hX _ _ _ (by rfl) hx) hsh).mono fun e W' ⟨v, he, hp⟩ => ?_
  subst he
  exact ChangeSpec.post_blind hp
end
end Go.Proofs.YtljdbheclfaloaaGreatDoor.AM
