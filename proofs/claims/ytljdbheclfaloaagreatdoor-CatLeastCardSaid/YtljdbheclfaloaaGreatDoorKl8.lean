/-
  The machine, the functions, what they come to: part 8.
  Conditions: as each says.
-/
import Derived.Test.YtljdbheclfaloaaGreatDoorKl7
import Derived.WideShapes
import Derived.LaidMore
import Derived.LaidLaws
import Derived.HandedShaped
import Derived.Shelf.Vars
namespace Go.Proofs.YtljdbheclfaloaaGreatDoor.AM
open Go.RowKit
set_option linter.unusedSimpArgs false
set_option linter.unusedVariables false
set_option maxRecDepth 20000

def zpk : Stm → List Bys
  | .lets _ _ => []
  | .chk _ _ a => [a]
def zb8 (l : List Stm) : List Bys := l.flatMap zpk
def zdx (l : List Stm) : Kn := l.flatMap Stm.given
theorem ycn {h : Heap} {ss : Value} {rows : List (List Value)} {T : Nat → Prop} {l : List Stm} (hs : Sl h ss 4 rows) (sp : StsP h T rows l) {K : Heap} (p : Pre h K) {k : Nat} {s : Stm} (hk : l[k]? = some s) :
    ∃ row b' o v Tk, row.length = 4 ∧ row[3]? = some (str (zvg s)) ∧ (∀ H', rowO H' 4 ss (.int .i64 (k : Int)) = some (.pointer (some ⟨b', o, some v⟩), H')) ∧ Heap.read K ⟨b', o, some v⟩ 4 = some row ∧ StP h Tk row s := by
  obtain ⟨row, Tk, hr, sk, _⟩ := sp.focus hk
  have hlt := (List.getElem?_eq_some_iff.1 hr).1
  obtain ⟨b', o, v, a1, a2⟩ := (hs.pre p).atH (k := k) hlt
  have hr' : rows[k] = row := (List.getElem?_eq_some_iff.1 hr).2
  rw [hr'] at a2
  refine ⟨row, b', o, v, Tk, hs.2 row (List.mem_of_getElem? hr), ?_, a1, a2, sk⟩
  cases s with
  | lets rc gs => obtain ⟨_, _, _, rfl, _⟩ := sk; rfl
  | chk c x a => obtain ⟨_, rfl, _⟩ := sk; rfl
theorem zc9 {α β : Type} {l : List α} {k : Nat} {x : α} (h : l[k]? = some x) (f : α → List β) : (l.take (k + 1)).flatMap f = (l.take k).flatMap f ++ f x := by
  rw [List.take_add_one, h, List.flatMap_append]; simp
def wRow (w : Bys) : List Value := [str w]
theorem zmk : ∀ (l : List Stm), (zb8 l).length ≤ l.length
  | [] => Nat.le_refl _
  | s :: l => by
    have := zmk l
    unfold zb8 at this ⊢
    rw [List.flatMap_cons, List.length_append]
    have h2 : (zpk s).length ≤ 1 := by cases s <;> simp [zpk]
    rw [List.length_cons]; omega
def CkI (h : Heap) (l : List Stm) (ss : Value) (k : Nat) (st : St) : Prop := ∃ K sv, (∃ j : Nat → Value, st = ⟨[j 0, j 1, j 2, sv, j 4, j 5, j 6, j 7, j 8, ss, .int .i64 (l.length : Int), .int .i64 (k : Int), j 12, j 13, j 14, j 15, j 16, j 17, j 18, j 19, j 20, j 21, j 22, j 23, j 24], K⟩) ∧ Pre h K ∧ Own h K sv 1 ((zb8 (l.take k)).map wRow)
def CkO (h : Heap) (l : List Stm) (st : St) : Prop := ∃ K sv, (∃ j : Nat → Value, st = ⟨[j 0, j 1, j 2, sv, j 4, j 5, j 6, j 7, j 8, j 9, j 10, j 11, j 12, j 13, j 14, j 15, j 16, j 17, j 18, j 19, j 20, j 21, j 22, j 23, j 24], K⟩) ∧ Pre h K ∧ Own h K sv 1 ((zb8 l).map wRow)
set_option maxHeartbeats 4000000 in
theorem zq1 {h : Heap} {S : Nat → Prop} {mb : Nat} {md : Md} (M : ModP h S mb md) :
    ∃ v h', DF FF zau [pt mb] h = some (v, h') ∧ (Own h h' v 1 ((zb8 md.l).map wRow) ∧ Pre h h') := by
  obtain ⟨⟨ks, ss, rows, T, hm, hk, hs, sp, _⟩, _, hlen⟩ := M
  refine wx zie ?_
  have lens : ∀ K, lenO K ss = some (.int .i64 (md.l.length : Int), K) := fun K => by rw [hs.len, (sp.len).1]
  have rm : ∀ j, Heap.read1 h ⟨mb, j, some 0⟩ = ([ks, ss] : List Value)[j]? := fun j => x8 hm
  simp only [zcy, ya, zb, yb, zm, zc, zo, zf, ze, zd, List.set_cons_succ, List.set_cons_zero, O_mv, yg, fq, zx, zk, List.cons_append, List.nil_append, List.length_cons, List.length_nil, Nat.reduceSub, Nat.zero_add, zn, yc, zy, za, xa, z7, zq, zj, zh, zg, List.getElem?_cons_zero, List.getElem?_cons_succ, yj, rm, lens]
  refine bz 0 md.l.length (CkI h md.l ss) (CkO h md.l) ?_ ?_ _ ⟨h, _, junk rfl, Pre.refl _, Own.nil _ _ _⟩ ?_
  · rintro k st hk' ⟨K, sv, ⟨j, rfl⟩, p, own⟩
    have hd : md.l[k]? = some md.l[k] := List.getElem?_eq_getElem hk'
    obtain ⟨row, b', o, v, Tk, h4, h3, a1, a2, sk⟩ := ycn hs sp p hd
    have hl : ((k : Int) < (md.l.length : Int)) = True := by simp; omega
    obtain ⟨s, hss⟩ : ∃ s, s = md.l[k] := ⟨_, rfl⟩
    rw [← hss] at sk hd h3
    cases s with
    | lets rc gs =>
      obtain ⟨s, vs, S', rfl, _⟩ := sk
      simp only [ya, zt, ym, zb, zz, zw, yb, zm, zc, zp, zo, zf, ze, zd, List.set_cons_succ, List.set_cons_zero, O_mv, yy, yg, vt, zx, zk, xt, y5, qf, wm, List.length_cons, List.length_nil, Nat.reduceAdd, Nat.zero_add, Bool.not_true, zn, yc, zy, za, zi, yp, xa, z7, zl, yr, z6, yu, yo, yh, zu, zr, Option.map_some, List.getElem?_cons_zero, List.getElem?_cons_succ, Bool.bne_true, jw, eq_self, yq, decide_true, hl, a1, a2, po, xp, xq (k := k) (by omega)]
      exact ⟨_, sv, junk rfl, p.more _, by unfold zb8; rw [zc9 hd]; simpa [zpk, zb8] using own.more _⟩
    | chk c x a =>
      obtain ⟨v', rfl, t⟩ := sk
      obtain ⟨b, _, _, _, _, rfl, _, _⟩ := t.root
      have hroom : (((zb8 (md.l.take k)).map wRow).length + 1) * 16 ≤ fm := by
        have := zmk (md.l.take k)
        rw [List.length_map]
        have h2 : (md.l.take k).length ≤ k := by simp; omega
        have := hlen.1
        unfold fm; omega
      obtain ⟨s', K2, p1, p2, p3, p4, p5, p6⟩ := (own.more [.cells [str (ckS c), nils, pt b, str a] 0 false]).push (p.more _) (row := wRow a) (bytes := 16) rfl hroom
      rw [List.append_assoc, List.length_append] at p1
      have p1' : ge (K ++ [AObj.cells [str (ckS c), nils, pt b, str a] 0 false, AObj.cells [str a] 0 false]) 1 16 sv (zdl (K ++ [AObj.cells [str (ckS c), nils, pt b, str a] 0 false, AObj.cells [str a] 0 false]) 1 (.slice (some ⟨K.length + 1, 0, some 0⟩) 1 1)) = some (s', K2) := p1
      simp only [ya, zt, ym, zb, zz, yb, zm, zc, zp, zo, zf, ze, zd, List.set_cons_succ, List.set_cons_zero, O_mv, yy, yg, vt, zx, zk, xt, y5, vf, w7, yd, z8, xe, xf, yx, Nat.lt_add_one, qf, wm, List.cons_append, List.nil_append, List.length_cons, List.length_nil, Nat.reduceAdd, Nat.zero_add, Bool.not_false, zn, yc, zy, za, zi, slc, gu, yp, xa, z7, zl, yr, z6, yu, yo, yh, zu, zr, List.append_assoc, List.length_append, List.append_nil, Option.map_some, List.getElem?_cons_zero, List.getElem?_cons_succ, Bool.bne_true, jw, eq_self, yq, wk, decide_true, hl, a1, a2, xm, xp, p1', xq (k := k) (by omega)]
      exact ⟨K2, s', junk rfl, p3, by unfold zb8; rw [zc9 hd, List.map_append]; simpa [zpk, zb8] using p2⟩
  · rintro st ⟨K, sv, ⟨j, rfl⟩, p, own⟩
    have hl : ((md.l.length : Int) < (md.l.length : Int)) = False := by simp
    simp only [ya, zt, vj, zb, zw, yb, zm, zc, zo, ze, zd, List.set_cons_succ, List.set_cons_zero, yy, yg, wm, zn, yc, za, yz, fi, xo, decide_false, hl, fi]
    rw [List.take_length] at own
    exact ⟨K, sv, junk rfl, p, own⟩
  rintro st ⟨K, sv, ⟨j, rfl⟩, p, own⟩
  simp only [ya, xc, zb, yb, zm, zc, zo, ze, zd, List.set_cons_succ, List.set_cons_zero, O_mv, zn, yc, za, yk, wg]
  exact own.finish p

/-! What is given. -/
theorem zo4 : ∀ (l : List Stm), (∀ rc gs, Stm.lets rc gs ∈ l → gs.length ≤ 8192) → (zdx l).length ≤ l.length * 8192
  | [], _ => Nat.le_refl _
  | s :: l, h => by
    have := zo4 l fun rc gs hm => h rc gs (by simp [hm])
    unfold zdx at this ⊢
    rw [List.flatMap_cons, List.length_append]
    have h2 : s.given.length ≤ 8192 := by
      cases s with
      | lets rc gs => have := h rc gs (by simp); simpa [Stm.given, k7] using this
      | chk k x a => simp [Stm.given]
    rw [List.length_cons]; omega
def LtI (h : Heap) (l : List Stm) (ss : Value) (k : Nat) (st : St) : Prop := ∃ K sv, (∃ j : Nat → Value, st = ⟨[j 0, j 1, j 2, sv, j 4, j 5, j 6, j 7, j 8, j 9, j 10, ss, .int .i64 (l.length : Int), .int .i64 (k : Int), j 14, j 15, j 16, j 17, j 18, j 19, j 20, j 21, j 22, j 23, j 24, j 25, j 26, j 27, j 28, j 29, j 30, j 31, j 32, j 33, j 34, j 35, j 36, j 37], K⟩) ∧ Pre h K ∧ Own h K sv 2 ((zdx (l.take k)).map wz)
def LtO (h : Heap) (l : List Stm) (st : St) : Prop := ∃ K sv, (∃ j : Nat → Value, st = ⟨[j 0, j 1, j 2, sv, j 4, j 5, j 6, j 7, j 8, j 9, j 10, j 11, j 12, j 13, j 14, j 15, j 16, j 17, j 18, j 19, j 20, j 21, j 22, j 23, j 24, j 25, j 26, j 27, j 28, j 29, j 30, j 31, j 32, j 33, j 34, j 35, j 36, j 37], K⟩) ∧ Pre h K ∧ Own h K sv 2 ((zdx l).map wz)
def LgI (h : Heap) (l : List Stm) (ss : Value) (k : Nat) (gs : List Gv) (s : Value) (i : Nat) (st : St) : Prop := ∃ K sv, (∃ j : Nat → Value, st = ⟨[j 0, j 1, j 2, sv, j 4, j 5, j 6, j 7, j 8, j 9, j 10, ss, .int .i64 (l.length : Int), .int .i64 (k : Int), j 14, j 15, j 16, j 17, s, .int .i64 (gs.length : Int), .int .i64 (i : Int), j 21, j 22, j 23, j 24, j 25, j 26, j 27, j 28, j 29, j 30, j 31, j 32, j 33, j 34, j 35, j 36, j 37], K⟩) ∧ Pre h K ∧ Own h K sv 2 ((zdx (l.take k) ++ k7 (gs.take i)).map wz)
def LgO (h : Heap) (l : List Stm) (ss : Value) (k : Nat) (gs : List Gv) (st : St) : Prop := ∃ K sv, (∃ j : Nat → Value, st = ⟨[j 0, j 1, j 2, sv, j 4, j 5, j 6, j 7, j 8, j 9, j 10, ss, .int .i64 (l.length : Int), .int .i64 (k : Int), j 14, j 15, j 16, j 17, j 18, j 19, j 20, j 21, j 22, j 23, j 24, j 25, j 26, j 27, j 28, j 29, j 30, j 31, j 32, j 33, j 34, j 35, j 36, j 37], K⟩) ∧ Pre h K ∧ Own h K sv 2 ((zdx (l.take k) ++ k7 gs).map wz)
theorem zvb (d : Bys × Bool) : wo [str [], .bool false] [(0, 2, agg [str d.1, .bool d.2])] = some [str d.1, .bool d.2] := by
  rw [wo, yf]
  simp [splice, yx]
set_option maxHeartbeats 8000000 in
theorem zuy {h : Heap} {S : Nat → Prop} {mb : Nat} {md : Md} (M : ModP h S mb md) :
    ∃ v h', DF FF zbl [pt mb] h = some (v, h') ∧ (Own h h' v 2 ((zdx md.l).map wz) ∧ Pre h h') := by
  obtain ⟨⟨ks, ss, rows, T, hm, hk, hs, sp, _⟩, _, hlen⟩ := M
  refine wx zjl ?_
  have lens : ∀ K, lenO K ss = some (.int .i64 (md.l.length : Int), K) := fun K => by rw [hs.len, (sp.len).1]
  have rm : ∀ j, Heap.read1 h ⟨mb, j, some 0⟩ = ([ks, ss] : List Value)[j]? := fun j => x8 hm
  simp only [ze1, ya, zb, yb, zm, zc, zo, zf, ze, zd, List.set_cons_succ, List.set_cons_zero, O_mv, yg, fq, zx, zk, List.cons_append, List.nil_append, List.length_cons, List.length_nil, Nat.reduceSub, Nat.zero_add, zn, yc, zy, za, xa, z7, zq, zj, zh, zg, List.getElem?_cons_zero, List.getElem?_cons_succ, yj, rm, lens]
  refine bz 0 md.l.length (LtI h md.l ss) (LtO h md.l) ?_ ?_ _ ⟨h, _, junk rfl, Pre.refl _, Own.nil _ _ _⟩ ?_
  · rintro k st hk' ⟨K, sv, ⟨j, rfl⟩, p, own⟩
    have hd : md.l[k]? = some md.l[k] := List.getElem?_eq_getElem hk'
    obtain ⟨row, b', o, v, Tk, h4, h3, a1, a2, sk⟩ := ycn hs sp p hd
    have hl : ((k : Int) < (md.l.length : Int)) = True := by simp; omega
    obtain ⟨s, hss⟩ : ∃ s, s = md.l[k] := ⟨_, rfl⟩
    rw [← hss] at sk hd h3
    have hgl : (zdx (md.l.take k)).length ≤ k * 8192 := by
      have := zo4 (md.l.take k) fun rc gs hm => hlen.2.2 rc gs (List.mem_of_mem_take hm)
      have h2 : (md.l.take k).length = k := by simp; omega
      rwa [h2] at this
    have hk8 := hlen.1
    cases s with
    | chk c x a =>
      obtain ⟨v', rfl, t⟩ := sk
      simp only [ya, zt, vj, ym, zb, zz, zw, yb, zm, zc, zp, zo, zf, ze, zd, List.set_cons_succ, List.set_cons_zero, O_mv, yy, yg, fq, vt, zx, zk, xt, y5, qf, wm, List.length_cons, List.length_nil, Nat.reduceAdd, Nat.zero_add, zn, yc, zy, za, yz, zi, yk, yp, xa, z7, zl, yr, z6, yu, yo, yh, zu, zr, Option.map_some, List.getElem?_cons_zero, List.getElem?_cons_succ, Int.reduceLT, eq_self, yq, decide_true, decide_false, hl, a1, a2, zel, ze4, xq (k := k) (by omega)]
      exact ⟨_, sv, junk rfl, p.more _, by unfold zdx; rw [zc9 hd]; simpa [Stm.given, zdx] using own.more _⟩
    | lets rc gs =>
      obtain ⟨s, vs, S', rfl, hsg, G, _⟩ := sk
      have hg8 : gs.length ≤ 8192 := hlen.2.2 rc gs (List.mem_of_getElem? hd)
      have lens2 : ∀ K, lenO K s = some (.int .i64 (gs.length : Int), K) := fun K => by rw [hsg.len, zet G.len]
      simp only [ya, zt, ym, zb, zz, yb, zm, zc, zp, zo, zf, ze, zd, List.set_cons_succ, List.set_cons_zero, O_mv, yy, yg, fq, vt, zx, zk, xt, y5, wm, List.length_cons, List.length_nil, Nat.reduceAdd, Nat.zero_add, zn, yc, zy, za, yp, xa, z7, zl, yr, z6, yu, yo, yh, zu, zr, Option.map_some, List.getElem?_cons_zero, List.getElem?_cons_succ, eq_self, decide_true, hl, a1, a2, lens2]
      refine bz 2 gs.length (LgI h md.l ss k gs s) (LgO h md.l ss k gs) ?_ ?_ _ ⟨_, sv, junk rfl, p.more _, by simpa [k7] using own.more _⟩ ?_
      · rintro i st hi ⟨K, sv, ⟨j, rfl⟩, p, own⟩
        have hg : gs[i]? = some gs[i] := List.getElem?_eq_getElem hi
        obtain ⟨b, S'', b', o, v, a1, a2, t⟩ := zxi (km := h.length) hsg G ⟨fun b l n ro hb => p.kept b _ hb, fun b o hb _ => p.kept b o hb, p.le⟩ hg
        obtain ⟨b0, op, w0, l0, r0, hb0, _, hbo⟩ := t.root
        have hb0 : b = b0 := by simpa using hb0
        subst hb0
        have rb : ∀ L j, Heap.read1 (K ++ L) ⟨b, j, some 0⟩ = (vm op w0 gs[i].e.pl l0 r0 gs[i].e.set)[j]? := fun L j => x8 (y6 L hbo)
        have h1 : ((i : Int) < (gs.length : Int)) = True := by simp; omega
        have hroom : (((zdx (md.l.take k) ++ k7 (gs.take i)).map wz).length + 1) * 24 ≤ fm := by
          rw [List.length_map, List.length_append]
          have h2 : (k7 (gs.take i)).length ≤ i := by simp [k7]; omega
          unfold fm; omega
        obtain ⟨s', K2, p1, p2, p3, p4, p5, p6⟩ := (own.more [.cells (qi gs[i] (pt b)) 0 false]).push (p.more _) (row := wz (gs[i].name, gs[i].e.set)) (bytes := 24) rfl hroom
        rw [List.append_assoc, List.length_append] at p1
        have p1' : ge (K ++ [AObj.cells (qi gs[i] (pt b)) 0 false, AObj.cells [str gs[i].name, .bool gs[i].e.set] 0 false]) 2 24 sv (zdl (K ++ [AObj.cells (qi gs[i] (pt b)) 0 false, AObj.cells [str gs[i].name, .bool gs[i].e.set] 0 false]) 2 (.slice (some ⟨K.length + 1, 0, some 0⟩) 1 2)) = some (s', K2) := p1
        simp only [ya, zt, ym, zb, zz, yb, zm, zc, zp, zo, zf, ze, zd, List.set_cons_succ, List.set_cons_zero, O_mv, yy, yg, vt, zx, zk, xt, y5, vf, x9, w7, y7, yd, z8, xe, xf, yx, bf, Nat.lt_add_one, Nat.zero_lt_succ, qf, wm, List.cons_append, List.nil_append, List.length_cons, List.length_nil, Nat.reduceAdd, Nat.zero_add, zn, yc, zy, za, zi, slc, gu, yp, xa, z7, zl, yr, z6, zq, zj, yu, yo, yh, zu, zr, List.append_assoc, List.length_append, List.append_nil, Nat.add_zero, Option.map_some, eq_self, yq, wk, decide_true, h1, a1, a2, gc, zfi, zej, rb, zbm, zvb (gs[i].name, gs[i].e.set), p1', xq (k := i) (by omega)]
        refine ⟨K2, s', junk rfl, p3, ?_⟩
        have e : k7 (gs.take (i + 1)) = k7 (gs.take i) ++ [(gs[i].name, gs[i].e.set)] := zuf hg _
        rw [e, ← List.append_assoc, List.map_append]
        exact p2
      · rintro st ⟨K, sv, ⟨j, rfl⟩, p, own⟩
        have h1 : ((gs.length : Int) < (gs.length : Int)) = False := by simp
        simp only [ya, zt, vj, zb, zw, yb, zm, zc, zo, ze, zd, List.set_cons_succ, List.set_cons_zero, yy, yg, wm, zn, yc, za, yz, fi, xo, decide_false, h1, fi]
        rw [List.take_length] at own
        exact ⟨K, sv, junk rfl, p, own⟩
      rintro st ⟨K, sv, ⟨j, rfl⟩, p, own⟩
      simp only [ya, zb, yb, zm, zc, zo, zf, ze, zd, List.set_cons_succ, List.set_cons_zero, O_mv, yy, yg, qf, zn, za, zi, yk, yq, xq (k := k) (by omega)]
      exact ⟨K, sv, junk rfl, p, by unfold zdx; rw [zc9 hd]; exact own⟩
  · rintro st ⟨K, sv, ⟨j, rfl⟩, p, own⟩
    have hl : ((md.l.length : Int) < (md.l.length : Int)) = False := by simp
    simp only [ya, zt, vj, zb, zw, yb, zm, zc, zo, ze, zd, List.set_cons_succ, List.set_cons_zero, yy, yg, wm, zn, yc, za, yz, fi, xo, decide_false, hl, fi]
    rw [List.take_length] at own
    exact ⟨K, sv, junk rfl, p, own⟩
  rintro st ⟨K, sv, ⟨j, rfl⟩, p, own⟩
  simp only [ya, xc, zb, yb, zm, zc, zo, ze, zd, List.set_cons_succ, List.set_cons_zero, O_mv, zn, yc, za, yk, wg]
  exact own.finish p
end Go.Proofs.YtljdbheclfaloaaGreatDoor.AM
namespace Go.Proofs.YtljdbheclfaloaaGreatDoor.AM
open Go.RowKit
set_option linter.unusedSimpArgs false
set_option linter.unusedVariables false
set_option maxRecDepth 20000

theorem zii : ∀ (e : Ex) (rt : Bool), NoR [] rt e
  | .name _ _ _, _ => fun _ => by simp
  | .zero _, _ => trivial
  | .par _ _ e, rt => zii e rt
  | .box _ e, rt => zii e rt
  | .un _ e, rt => zii e rt
  | .bin _ o l r, rt => ⟨zii l rt, zii r _⟩
theorem ybn (u : U) {a b : En} (h : LeE [] a b) (e : Ex) : (evE u a e).s = (evE u b e).s ∧ leR (evE u a e).r (evE u b e).r ∧ leR (evE u b e).r (evE u a e).r := by
  have := zec u h e true (zii e true)
  exact ⟨this.1, this.2.1, this.2.2 rfl⟩
theorem zug {f g : Nat → U} (h : zf4 f g = true) : leR f g ∧ leR g f :=
  ⟨fun i j hi _ x => (zxn h hi j).1 x, fun i j hi _ x => (zxn h hi j).2 x⟩
theorem ztt {f g : Nat → U} (h : leR f g) (k : leR g f) : zf4 f g = true := zwu fun a b ha hb => ⟨h a b ha hb, k a b ha hb⟩
theorem zwj {u : U} {p : En × Bool} {g : Gv} (h : (zdv u p g).2 = false) : p.2 = false ∧ LeE [] p.1 (zdv u p g).1 ∧ ∃ v, vx g.name (zdv u p g).1 = some (g.e.set, v) ∧ v = evE u p.1 g.e := by
  simp only [zdv, Bool.or_eq_false_iff] at h ⊢
  obtain ⟨h1, h2⟩ := h
  refine ⟨h1, fun w => ?_, _, by rw [xh, if_pos (by simp)], rfl⟩
  rw [xh]
  cases hl : vx g.name p.1 with
  | none => rw [hl] at h2; cases h2
  | some q =>
    obtain ⟨b, x⟩ := q
    rw [hl] at h2
    simp only [chg, Bool.not_eq_false', Bool.and_eq_true, zvi, beq_iff_eq] at h2
    obtain ⟨rfl, hs, hr⟩ := h2
    by_cases hw : w = g.name
    · subst hw
      rw [if_pos (by simp)]
      exact .inr ⟨_, x, _, hl, rfl, hs, (zug hr).1, fun _ => (zug hr).2⟩
    · rw [if_neg (by simpa using hw)]
      cases h : vx w p.1 with
      | none => exact .inl ⟨rfl, rfl⟩
      | some p => exact .inr ⟨p.1, p.2, p.2, rfl, rfl, rfl, leR.refl _, fun _ => leR.refl _⟩
theorem zqe {u : U} : ∀ (l : List Gv) (p : En × Bool), (l.foldl (zdv u) p).2 = false → p.2 = false ∧ LeE [] p.1 (l.foldl (zdv u) p).1 ∧
    ∀ g ∈ l, ∃ b v, vx g.name (l.foldl (zdv u) p).1 = some (b, v) ∧ leR (evE u (l.foldl (zdv u) p).1 g.e).r v.r ∧ leR v.r (evE u (l.foldl (zdv u) p).1 g.e).r
  | [], p, h => ⟨h, LeE.refl _ _, fun g hg => by cases hg⟩
  | g :: l, p, h => by
    rw [List.foldl_cons] at h ⊢
    obtain ⟨h1, L1, k1⟩ := zqe l (zdv u p g) h
    obtain ⟨h2, L2, v, hv, rfl⟩ := zwj h1
    refine ⟨h2, L2.trans L1, fun k hk => ?_⟩
    rcases List.mem_cons.1 hk with rfl | hk
    · have e := ybn u (L2.trans L1) k.e
      rcases L1 k.name with ⟨a1, a2⟩ | ⟨b, x, x', a1, a2, a3, a4, a5⟩
      · rw [hv] at a1; cases a1
      · rw [hv] at a1; cases a1
        exact ⟨_, x', a2, e.2.2.trans a4, (a5 (by simp)).trans e.2.1⟩
    · exact k1 k hk
theorem zzs {u : U} {gs : List Gv} : ∀ (n : Nat) (env : En), Ends u gs n env → ∀ g ∈ gs, ∃ b v, vx g.name (recN u gs n env) = some (b, v) ∧ leR (evE u (recN u gs n env) g.e).r v.r ∧ leR v.r (evE u (recN u gs n env) g.e).r
  | 0, env, h => by cases h
  | n + 1, env, h => by
    rw [recN]
    rcases h with h | ⟨h, h'⟩
    · rw [h, if_neg Bool.false_ne_true]
      exact (zqe gs (env, false) h).2.2
    · rw [h, if_pos rfl]
      exact zzs n _ h'
theorem ztw {u : U} {gs : List Gv} (I : En → Prop) (hs : ∀ env g, g ∈ gs → I env → I (setE g.name g.e.set (evE u env g.e) env)) : ∀ (n : Nat) (env : En), I env → I (recN u gs n env)
  | 0, env, h => h
  | n + 1, env, h => by
    have key : ∀ (l : List Gv) (p : En × Bool), (∀ g ∈ l, g ∈ gs) → I p.1 → I (l.foldl (zdv u) p).1 := by
      intro l
      induction l with
      | nil => intro p _ h; exact h
      | cons g l ih => intro p hl h; exact ih _ (fun g hg => hl g (by simp [hg])) (hs _ g (hl g (by simp)) h)
    have h1 : I (zca u gs env).1 := key gs _ (fun g hg => hg) h
    rw [recN]
    split
    · exact ztw I hs n _ h1
    · exact h1
theorem zvr {gs : List Gv} (I : En → Prop) (hs : ∀ env g, g ∈ gs → I env → I (setE g.name false v0 env)) : ∀ env : En, I env → I (zdm gs env) := by
  intro env h
  have key : ∀ (l : List Gv) (en : En), (∀ g ∈ l, g ∈ gs) → I en → I (l.foldl (fun en g => setE g.name false v0 en) en) := by
    intro l
    induction l with
    | nil => intro p _ h; exact h
    | cons g l ih => intro p hl h; exact ih _ (fun g hg => hl g (by simp [hg])) (hs _ g (hl g (by simp)) h)
  exact key gs env (fun g hg => hg) h
end Go.Proofs.YtljdbheclfaloaaGreatDoor.AM
namespace Go.Proofs.YtljdbheclfaloaaGreatDoor.AM
open Go.RowKit
set_option linter.unusedSimpArgs false
set_option linter.unusedVariables false
set_option maxRecDepth 20000

theorem zlm {α : Type} {p q : α → Bool} : ∀ {l : List α}, (∀ x ∈ l, p x = true → q x = true) → (l.filter p).length ≤ (l.filter q).length
  | [], _ => Nat.le_refl _
  | x :: l, h => by
    have ih := zlm (l := l) fun y hy => h y (by simp [hy])
    have h0 := h x (by simp)
    rw [List.filter_cons, List.filter_cons]
    cases hp : p x
    · cases q x <;> simp <;> omega
    · rw [h0 hp]; simp; exact ih
theorem zqv {α : Type} {p q : α → Bool} : ∀ {l : List α}, (∀ x ∈ l, p x = true → q x = true) → (∃ x ∈ l, q x = true ∧ p x = false) → (l.filter p).length < (l.filter q).length
  | [], _, e => by obtain ⟨x, hx, _⟩ := e; cases hx
  | x :: l, h, e => by
    have hl : ∀ y ∈ l, p y = true → q y = true := fun y hy => h y (by simp [hy])
    have h0 := h x (by simp)
    rw [List.filter_cons, List.filter_cons]
    obtain ⟨y, hy, hq, hp⟩ := e
    rcases List.mem_cons.1 hy with rfl | hy
    · rw [hq, hp]
      have := zlm hl
      simp; omega
    · have ih := zqv hl ⟨y, hy, hq, hp⟩
      cases hp : p x
      · cases q x <;> simp <;> omega
      · rw [h0 hp]; simp; exact ih
def cntR (r : Nat → U) : Nat := ((List.range 1024).filter fun k => (r (k / 32)).getLsbD (k % 32)).length
theorem ydw (r : Nat → U) : cntR r ≤ 1024 := by
  have := List.length_filter_le (fun k => (r (k / 32)).getLsbD (k % 32)) (List.range 1024)
  rwa [List.length_range] at this
theorem zyw {a b : Nat → U} (h : leR a b) : cntR a ≤ cntR b := zlm fun k hk x => h _ _ (by have := List.mem_range.1 hk; omega) (Nat.mod_lt _ (by decide)) x
theorem yev {a b : Nat → U} (h : leR a b) (n : zf4 a b = false) : cntR a < cntR b := by
  refine zqv (fun k hk x => h _ _ (by have := List.mem_range.1 hk; omega) (Nat.mod_lt _ (by decide)) x) ?_
  apply Classical.byContradiction
  intro hn
  have : zf4 a b = true := zwu fun i j hi hj => ⟨h i j hi hj, fun hb => by
    apply Classical.byContradiction
    intro ha
    refine hn ⟨i * 32 + j, List.mem_range.2 (by omega), ?_, ?_⟩
    · rw [show (i * 32 + j) / 32 = i by omega, show (i * 32 + j) % 32 = j by omega]; exact hb
    · rw [show (i * 32 + j) / 32 = i by omega, show (i * 32 + j) % 32 = j by omega]; simpa using ha⟩
  rw [this] at n; cases n
def cntE (env : En) (w : Bys) : Nat := match vx w env with
  | some (_, v) => cntR v.r
  | none => 0
theorem yey (env : En) (w : Bys) : cntE env w ≤ 1024 := by
  unfold cntE; split
  · exact ydw _
  · exact Nat.zero_le _
theorem zpw {rc : List Bys} {env env' : En} (L : LeE rc env env') (w : Bys) : cntE env w ≤ cntE env' w := by
  unfold cntE
  rcases L w with ⟨h1, h2⟩ | ⟨b, v, v', h1, h2, h3, h4, h5⟩
  · rw [h1, h2]; exact Nat.le_refl _
  · rw [h1, h2]; exact zyw h4
def sumE (env : En) (gs : List Gv) : Nat := (gs.map fun g => cntE env g.name).sum
theorem zzj (env : En) : ∀ gs : List Gv, sumE env gs ≤ gs.length * 1024
  | [] => Nat.le_refl _
  | g :: gs => by
    have := zzj env gs
    have h := yey env g.name
    unfold sumE at this ⊢
    simp only [List.map_cons, List.sum_cons, List.length_cons]; omega
theorem zh4 {rc : List Bys} {env env' : En} (L : LeE rc env env') : ∀ gs : List Gv, sumE env gs ≤ sumE env' gs
  | [] => Nat.le_refl _
  | g :: gs => by
    have := zh4 L gs
    have h := zpw L g.name
    unfold sumE at this ⊢
    simp only [List.map_cons, List.sum_cons]; omega
theorem zy8 {rc : List Bys} {env env' : En} (L : LeE rc env env') : ∀ {gs : List Gv} {g : Gv}, g ∈ gs → cntE env g.name < cntE env' g.name → sumE env gs < sumE env' gs
  | x :: gs, g, hg, h => by
    have m := zh4 L gs
    have hx := zpw L x.name
    rcases List.mem_cons.1 hg with rfl | hg
    · unfold sumE at m ⊢
      simp only [List.map_cons, List.sum_cons]; omega
    · have := zy8 L hg h
      unfold sumE at this ⊢
      simp only [List.map_cons, List.sum_cons]; omega
structure RecG (kn : Kn) (rc : List Bys) (gs : List Gv) : Prop where
  ty : ∀ g ∈ gs, Typ kn g.e
  st : ∀ g ∈ gs, g.e.set = false
  nr : ∀ g ∈ gs, NoR rc false g.e
  mem : ∀ g ∈ gs, g.name ∈ rc
  inj : ∀ g ∈ gs, ∀ g' ∈ gs, g.name = g'.name → g = g'
structure RecI (u : U) (kn : Kn) (gs : List Gv) (env : En) : Prop where
  kd : KdOk kn env
  z : S0 env
  at_ : ∀ g ∈ gs, ∃ v, vx g.name env = some (false, v) ∧ leR v.r (evE u env g.e).r
theorem yb3 {u : U} {kn : Kn} {rc : List Bys} {gs : List Gv} (G : RecG kn rc gs) {env : En} (I : RecI u kn gs env) {g : Gv} (hg : g ∈ gs) :
    RecI u kn gs (setE g.name g.e.set (evE u env g.e) env) ∧ LeE rc env (setE g.name g.e.set (evE u env g.e) env) ∧ (chg (vx g.name env) g.e.set (evE u env g.e) = true → sumE env gs < sumE (setE g.name g.e.set (evE u env g.e) env) gs) := by
  rw [G.st g hg]
  obtain ⟨v, hv, hle⟩ := I.at_ g hg
  have s0 : (evE u env g.e).s = 0#32 := zpx I.kd I.z (G.ty g hg) (G.st g hg)
  have v0 : v.s = 0#32 := I.z _ _ hv
  have L : LeE rc env (setE g.name false (evE u env g.e) env) := fun w => by
    rw [xh]
    by_cases hw : w = g.name
    · subst hw
      rw [if_pos (by simp)]
      exact .inr ⟨false, v, _, hv, rfl, v0.trans s0.symm, hle, fun h => absurd (G.mem g hg) h⟩
    · rw [if_neg (by simpa using hw)]
      cases h : vx w env with
      | none => exact .inl ⟨rfl, rfl⟩
      | some p => exact .inr ⟨p.1, p.2, p.2, rfl, rfl, rfl, leR.refl _, fun _ => leR.refl _⟩
  refine ⟨⟨fun w => ?_, fun w x h => ?_, fun k hk => ?_⟩, L, fun hc => ?_⟩
  · rw [xh]
    by_cases hw : w = g.name
    · subst hw
      rw [if_pos (by simp), ← I.kd, hv]; rfl
    · rw [if_neg (by simpa using hw)]; exact I.kd w
  · rw [xh] at h
    by_cases hw : w = g.name
    · subst hw
      rw [if_pos (by simp)] at h
      cases h; exact s0
    · rw [if_neg (by simpa using hw)] at h; exact I.z w x h
  · obtain ⟨m1, m2, m3⟩ := zec u L k.e false (G.nr k hk)
    rw [xh]
    by_cases hw : k.name = g.name
    · have := G.inj k hk g hg hw
      subst this
      rw [if_pos (by simp)]
      exact ⟨_, rfl, m2⟩
    · rw [if_neg (by simpa using hw)]
      obtain ⟨x, hx, hl⟩ := I.at_ k hk
      exact ⟨x, hx, hl.trans m2⟩
  · refine zy8 L hg ?_
    unfold cntE
    rw [xh, if_pos (by simp), hv]
    simp only
    refine yev hle ?_
    rw [hv] at hc
    simp only [chg, zvi, v0, s0] at hc
    simpa using hc
theorem zhq {u : U} {kn : Kn} {rc : List Bys} {gs : List Gv} (G : RecG kn rc gs) : ∀ (l : List Gv) (p : En × Bool), (∀ g ∈ l, g ∈ gs) → RecI u kn gs p.1 →
    RecI u kn gs (l.foldl (zdv u) p).1 ∧ LeE rc p.1 (l.foldl (zdv u) p).1 ∧ (p.2 = false → (l.foldl (zdv u) p).2 = true → sumE p.1 gs < sumE (l.foldl (zdv u) p).1 gs)
  | [], p, _, I => ⟨I, LeE.refl _ _, fun h h2 => by rw [List.foldl_nil, h] at h2; cases h2⟩
  | g :: l, p, hl, I => by
    obtain ⟨I1, L1, c1⟩ := yb3 G I (hl g (by simp))
    obtain ⟨I2, L2, c2⟩ := zhq G l (zdv u p g) (fun k hk => hl k (by simp [hk])) I1
    rw [List.foldl_cons]
    refine ⟨I2, L1.trans L2, fun h h2 => ?_⟩
    cases hc : chg (vx g.name p.1) g.e.set (evE u p.1 g.e)
    · have := c2 (by simp [zdv, h, hc]) h2
      exact Nat.lt_of_le_of_lt (zh4 L1 gs) this
    · exact Nat.lt_of_lt_of_le (c1 hc) (zh4 L2 gs)
theorem zn3 {u : U} {kn : Kn} {rc : List Bys} {gs : List Gv} (G : RecG kn rc gs) : ∀ (n : Nat) (env : En), RecI u kn gs env → gs.length * 1024 < sumE env gs + n → Ends u gs n env
  | 0, env, I, h => by have := zzj env gs; omega
  | n + 1, env, I, h => by
    obtain ⟨I2, L2, c2⟩ := zhq G gs (env, false) (fun g hg => hg) I
    rw [Ends]
    cases hc : (zca u gs env).2
    · exact .inl rfl
    · refine .inr ⟨rfl, zn3 G n _ I2 ?_⟩
      have := c2 rfl hc
      show _ < sumE (zca u gs env).1 gs + n
      unfold zca at *
      simp only at this
      omega
theorem zy4 {u : U} {kn : Kn} {rc : List Bys} {gs : List Gv} (G : RecG kn rc gs) : ∀ (n : Nat) (env : En), RecI u kn gs env → RecI u kn gs (recN u gs n env) ∧ LeE rc env (recN u gs n env)
  | 0, env, I => ⟨I, LeE.refl _ _⟩
  | n + 1, env, I => by
    obtain ⟨I2, L2, c2⟩ := zhq G gs (env, false) (fun g hg => hg) I
    rw [recN]
    split
    · obtain ⟨I3, L3⟩ := zy4 G n (zca u gs env).1 I2
      exact ⟨I3, LeE.trans L2 L3⟩
    · exact ⟨I2, L2⟩
theorem ybx {u : U} {kn kn' : Kn} {gs : List Gv} {env : En} (k : KdOk kn env) (z : S0 env) (hk : ∀ w, jo kn' w = if gs.any (fun g => w == g.name) then some false else jo kn w) : RecI u kn' gs (zdm gs env) := by
  have key : ∀ (l : List Gv) (en : En) (w : Bys), vx w (l.foldl (fun en g => setE g.name false v0 en) en) = if l.any (fun g => w == g.name) then some (false, v0) else vx w en := by
    intro l
    induction l with
    | nil => intro en w; rfl
    | cons g l ih =>
      intro en w
      rw [List.foldl_cons, ih, xh, List.any_cons]
      cases h1 : w == g.name <;> cases h2 : l.any (fun g => w == g.name) <;> simp
  refine ⟨fun w => ?_, fun w v h => ?_, fun g hg => ⟨v0, ?_, zef _⟩⟩
  · rw [zdm, key, hk]
    split
    · rfl
    · exact k w
  · rw [zdm, key] at h
    split at h
    · cases h; rfl
    · exact z w v h
  · rw [zdm, key, if_pos]
    exact List.any_eq_true.2 ⟨g, hg, by simp⟩
end Go.Proofs.YtljdbheclfaloaaGreatDoor.AM
namespace Go.Proofs.YtljdbheclfaloaaGreatDoor.AM
open Go.RowKit
set_option linter.unusedSimpArgs false
set_option linter.unusedVariables false
set_option maxRecDepth 20000

def zrE (env : En) (gs : List Gv) (k : Nat) : En := (gs.take k).foldl (fun en g => setE g.name false v0 en) env
def rdE (u : U) (en : En) (gs : List Gv) (k : Nat) : En × Bool := (gs.take k).foldl (zdv u) (en, false)
def ZrI (h h0 : Heap) (q km : Nat) (u : U) (env : En) (gs : List Gv) (s : Value) (k : Nat) (st : St) : Prop := ∃ K, (∃ j : Nat → Value, st = ⟨[pt q, j 1, j 2, pt h.length, j 4, j 5, j 6, j 7, j 8, j 9, j 10, j 11, j 12, j 13, j 14, j 15, j 16, j 17, j 18, j 19, j 20, j 21, j 22, j 23, j 24, j 25, j 26, j 27, j 28, j 29, j 30, j 31, j 32, j 33, j 34, j 35, j 36, j 37, j 38, j 39, j 40, j 41, j 42, j 43, j 44, j 45, j 46, j 47, j 48, j 49, j 50, j 51, j 52, j 53, j 54, s, .int .i64 (gs.length : Int), .int .i64 (k : Int), j 58, j 59, j 60, j 61, j 62, j 63, j 64, j 65, j 66, j 67, j 68, j 69, j 70, j 71, j 72, j 73, j 74, j 75, j 76, j 77, j 78, j 79, j 80, j 81, j 82, j 83, j 84, j 85, j 86, j 87, j 88, j 89, j 90, j 91, j 92, j 93, j 94, j 95, j 96, j 97, j 98, j 99, j 100, j 101, j 102, j 103, j 104, j 105, j 106, j 107, j 108, j 109, j 110, j 111, j 112, j 113, j 114, j 115, j 116], K⟩) ∧ Wd K q km u (zrE env gs k) ∧ KC km h0 K
def ZrO (h h0 : Heap) (q km : Nat) (u : U) (env : En) (gs : List Gv) (st : St) : Prop := ∃ K, (∃ j : Nat → Value, st = ⟨[pt q, j 1, j 2, pt h.length, j 4, j 5, j 6, j 7, j 8, j 9, j 10, j 11, j 12, j 13, j 14, j 15, j 16, j 17, j 18, j 19, j 20, j 21, j 22, j 23, j 24, j 25, j 26, j 27, j 28, j 29, j 30, j 31, j 32, j 33, j 34, j 35, j 36, j 37, j 38, j 39, j 40, j 41, j 42, j 43, j 44, j 45, j 46, j 47, j 48, j 49, j 50, j 51, j 52, j 53, j 54, j 55, j 56, j 57, j 58, j 59, j 60, j 61, j 62, j 63, j 64, j 65, j 66, j 67, j 68, j 69, j 70, j 71, j 72, j 73, j 74, j 75, j 76, j 77, j 78, j 79, j 80, j 81, j 82, j 83, j 84, j 85, j 86, j 87, j 88, j 89, j 90, j 91, j 92, j 93, j 94, j 95, j 96, j 97, j 98, j 99, j 100, j 101, j 102, j 103, j 104, j 105, j 106, j 107, j 108, j 109, j 110, j 111, j 112, j 113, j 114, j 115, j 116], K⟩) ∧ Wd K q km u (zdm gs env) ∧ KC km h0 K
def WlI (h h0 : Heap) (q km : Nat) (u : U) (kn : Kn) (gs : List Gv) (fin : En) (m : Nat) (st : St) : Prop := ∃ K en c, (∃ j : Nat → Value, st = ⟨[pt q, j 1, j 2, pt h.length, j 4, j 5, j 6, j 7, j 8, j 9, j 10, j 11, .bool c, j 13, j 14, j 15, j 16, j 17, j 18, j 19, j 20, j 21, j 22, j 23, j 24, j 25, j 26, j 27, j 28, j 29, j 30, j 31, j 32, j 33, j 34, j 35, j 36, j 37, j 38, j 39, j 40, j 41, j 42, j 43, j 44, j 45, j 46, j 47, j 48, j 49, j 50, j 51, j 52, j 53, j 54, j 55, j 56, j 57, j 58, j 59, j 60, j 61, j 62, j 63, j 64, j 65, j 66, j 67, j 68, j 69, j 70, j 71, j 72, j 73, j 74, j 75, j 76, j 77, j 78, j 79, j 80, j 81, j 82, j 83, j 84, j 85, j 86, j 87, j 88, j 89, j 90, j 91, j 92, j 93, j 94, j 95, j 96, j 97, j 98, j 99, j 100, j 101, j 102, j 103, j 104, j 105, j 106, j 107, j 108, j 109, j 110, j 111, j 112, j 113, j 114, j 115, j 116], K⟩) ∧ Wd K q km u en ∧ KC km h0 K ∧ RecI u kn gs en ∧ ((c = true ∧ ∃ n, m = n + 1 ∧ Ends u gs n en ∧ recN u gs n en = fin) ∨ (c = false ∧ en = fin))
def WlO (h0 : Heap) (q km : Nat) (u : U) (fin : En) (st : St) : Prop := ∃ K, (∃ j : Nat → Value, st = ⟨[j 0, j 1, j 2, j 3, j 4, j 5, j 6, j 7, j 8, j 9, j 10, j 11, j 12, j 13, j 14, j 15, j 16, j 17, j 18, j 19, j 20, j 21, j 22, j 23, j 24, j 25, j 26, j 27, j 28, j 29, j 30, j 31, j 32, j 33, j 34, j 35, j 36, j 37, j 38, j 39, j 40, j 41, j 42, j 43, j 44, j 45, j 46, j 47, j 48, j 49, j 50, j 51, j 52, j 53, j 54, j 55, j 56, j 57, j 58, j 59, j 60, j 61, j 62, j 63, j 64, j 65, j 66, j 67, j 68, j 69, j 70, j 71, j 72, j 73, j 74, j 75, j 76, j 77, j 78, j 79, j 80, j 81, j 82, j 83, j 84, j 85, j 86, j 87, j 88, j 89, j 90, j 91, j 92, j 93, j 94, j 95, j 96, j 97, j 98, j 99, j 100, j 101, j 102, j 103, j 104, j 105, j 106, j 107, j 108, j 109, j 110, j 111, j 112, j 113, j 114, j 115, j 116], K⟩) ∧ Wd K q km u fin ∧ KC km h0 K
def RdI (h h0 : Heap) (q km : Nat) (u : U) (en : En) (gs : List Gv) (s : Value) (k : Nat) (st : St) : Prop := ∃ K, (∃ j : Nat → Value, st = ⟨[pt q, j 1, j 2, pt h.length, j 4, j 5, j 6, j 7, j 8, j 9, j 10, j 11, .bool (rdE u en gs k).2, j 13, j 14, j 15, j 16, j 17, j 18, j 19, j 20, j 21, j 22, j 23, j 24, j 25, j 26, j 27, j 28, j 29, j 30, j 31, j 32, j 33, j 34, j 35, j 36, j 37, j 38, j 39, j 40, j 41, j 42, j 43, j 44, j 45, j 46, j 47, j 48, j 49, j 50, j 51, j 52, j 53, j 54, j 55, j 56, j 57, j 58, j 59, j 60, j 61, j 62, j 63, j 64, j 65, j 66, j 67, j 68, s, .int .i64 (gs.length : Int), .int .i64 (k : Int), j 72, j 73, j 74, j 75, j 76, j 77, j 78, j 79, j 80, j 81, j 82, j 83, j 84, j 85, j 86, j 87, j 88, j 89, j 90, j 91, j 92, j 93, j 94, j 95, j 96, j 97, j 98, j 99, j 100, j 101, j 102, j 103, j 104, j 105, j 106, j 107, j 108, j 109, j 110, j 111, j 112, j 113, j 114, j 115, j 116], K⟩) ∧ Wd K q km u (rdE u en gs k).1 ∧ KC km h0 K
def RdO (h h0 : Heap) (q km : Nat) (u : U) (en : En) (gs : List Gv) (st : St) : Prop := ∃ K, (∃ j : Nat → Value, st = ⟨[pt q, j 1, j 2, pt h.length, j 4, j 5, j 6, j 7, j 8, j 9, j 10, j 11, .bool (zca u gs en).2, j 13, j 14, j 15, j 16, j 17, j 18, j 19, j 20, j 21, j 22, j 23, j 24, j 25, j 26, j 27, j 28, j 29, j 30, j 31, j 32, j 33, j 34, j 35, j 36, j 37, j 38, j 39, j 40, j 41, j 42, j 43, j 44, j 45, j 46, j 47, j 48, j 49, j 50, j 51, j 52, j 53, j 54, j 55, j 56, j 57, j 58, j 59, j 60, j 61, j 62, j 63, j 64, j 65, j 66, j 67, j 68, j 69, j 70, j 71, j 72, j 73, j 74, j 75, j 76, j 77, j 78, j 79, j 80, j 81, j 82, j 83, j 84, j 85, j 86, j 87, j 88, j 89, j 90, j 91, j 92, j 93, j 94, j 95, j 96, j 97, j 98, j 99, j 100, j 101, j 102, j 103, j 104, j 105, j 106, j 107, j 108, j 109, j 110, j 111, j 112, j 113, j 114, j 115, j 116], K⟩) ∧ Wd K q km u (zca u gs en).1 ∧ KC km h0 K
theorem yd8 {h0 K : Heap} {q km : Nat} {u : U} {kn : Kn} {rc : List Bys} {en : En} {gs : List Gv} (G : RecG kn rc gs) (I : RecI u kn gs en) {k : Nat} (w : Wd K q km u (rdE u en gs k).1) (kc : KC km h0 K) {g : Gv} (hg : gs[k]? = some g) {b : Nat} {S' : Nat → Prop} (t : TreeP K S' (pt b) g.e) :
    ∃ c row K2, DF FF v6 [pt q, pt b] (K ++ [.cells (qi g (pt b)) 0 false]) = some (agg row, K ++ [.cells (qi g (pt b)) 0 false]) ∧ DF FF jz [pt q, str g.name, agg row] (K ++ [.cells (qi g (pt b)) 0 false]) = some (.bool c, K2) ∧ Wd K2 q km u (rdE u en gs (k + 1)).1 ∧ KC km h0 K2 ∧ (rdE u en gs (k + 1)).2 = ((rdE u en gs k).2 || c) := by
  obtain ⟨I2, _, _⟩ := zhq G (gs.take k) (en, false) (fun g hg => List.mem_of_mem_take hg) I
  have hm : g ∈ gs := List.mem_of_getElem? hg
  obtain ⟨v, hv, _⟩ := I2.at_ g hm
  have hkd : kdE (rdE u en gs k).1 g.e = g.e.set := zs6 I2.kd (G.ty g hm)
  obtain ⟨c, K2, q1, w2, k2, hc⟩ := zwi (w.more [.cells (qi g (pt b)) 0 false]) g.name (nmE (rdE u en gs k).1 g.e) (kdE (rdE u en gs k).1 g.e) (evE u (rdE u en gs k).1 g.e)
  rw [hkd] at w2
  have e : rdE u en gs (k + 1) = zdv u (rdE u en gs k) g := zaf hg _ _
  refine ⟨c, _, K2, zfh u _ g.e _ q km S' (pt b) (w.more _) (t.keep fun _ _ _ ho => y6 _ ho), q1, by rw [e]; exact w2, (kc.trans (KC.more _ _)).trans k2, ?_⟩
  rw [e, hc _ hv, hkd]
  show (_ || chg (vx g.name (rdE u en gs k).1) _ _) = _
  rw [show vx g.name (rdE u en gs k).1 = some (false, v) from hv]
set_option maxHeartbeats 8000000 in
theorem ybt {h : Heap} {q km : Nat} {u : U} {env : En} {kn : Kn} {rc : List Bys} {S : Nat → Prop} {vs : List Value} {s : Value} {gs : List Gv} (W : Wd h q km u env) (hs : Sl h s 3 (List.zipWith qi gs vs)) (G : GsP h S vs gs) (hl : gs.length ≤ 8192) (GG : RecG kn rc gs) (I0 : RecI u kn gs (zdm gs env)) :
    ∃ h', DF FF qr [pt q, agg [str wRec, s, nilP, str []]] h = some (.bool true, h') ∧ Wd h' q km u (recN u gs (recK gs) (zdm gs env)) ∧ KC km h h' := by
  have : ∃ v h', DF FF qr [pt q, agg [str wRec, s, nilP, str []]] h = some (v, h') ∧ (v = .bool true ∧ Wd h' q km u (recN u gs (recK gs) (zdm gs env)) ∧ KC km h h') := by
    refine wx zbq ?_
    have lens : ∀ K, lenO K s = some (.int .i64 (gs.length : Int), K) := fun K => by rw [hs.len, zet G.len]
    obtain ⟨h0, hh0⟩ : ∃ h0, h0 = h ++ [AObj.cells [str [114, 101, 99], s, nilP, str []] 0 false] := ⟨_, rfl⟩
    have k0 : KC km h h0 := by rw [hh0]; exact KC.more _ _
    have W0 : Wd h0 q km u env := by rw [hh0]; exact W.more _
    have g0 : h0[h.length]? = some (.cells [str [114, 101, 99], s, nilP, str []] 0 false) := by rw [hh0]; simp
    have rg : ∀ K, KC km h0 K → ∀ j, Heap.read1 K ⟨h.length, j, some 0⟩ = ([str [114, 101, 99], s, nilP, str []] : List Value)[j]? := fun K kc j => x8 (kc.keep _ _ _ _ g0)
    have rg0 := rg h0 (KC.refl _)
    have hE : Ends u gs (recK gs) (zdm gs env) := zn3 GG _ _ I0 (by unfold recK; omega)
    obtain ⟨fin, hfin⟩ : ∃ fin, fin = recN u gs (recK gs) (zdm gs env) := ⟨_, rfl⟩
    rw [← hfin]
    simp only [kq, ya, zt, zb, zz, zw, yb, zm, zc, zo, zf, ze, zd, List.set_cons_succ, List.set_cons_zero, O_mv, yy, yg, fq, zx, zk, List.cons_append, List.nil_append, List.length_cons, List.length_nil, Nat.reduceAdd, Nat.reduceSub, Nat.zero_add, zn, yc, zy, za, w6, xa, z7, zh, zg, Nat.add_zero, List.getElem?_cons_zero, List.getElem?_cons_succ, beq_self_eq_true, eq_self, yf, zs, yj, va, f6, wRec, yfe, yf, ← hh0, rg0, lens]
    refine bz 5 gs.length (ZrI h h0 q km u env gs s) (ZrO h h0 q km u env gs) ?_ ?_ _ ⟨h0, junk rfl, W0, KC.refl _⟩ ?_
    · rintro k st hk ⟨K, ⟨j, rfl⟩, w, kc⟩
      have hg : gs[k]? = some gs[k] := List.getElem?_eq_getElem hk
      obtain ⟨b, S', b', o, v, a1, a2, t⟩ := zxi hs G (k0.trans kc) hg
      obtain ⟨c, K2, q1, w2, k2, _⟩ := zwi (w.more [.cells (qi gs[k] (pt b)) 0 false]) gs[k].name [] false v0
      have h1 : ((k : Int) < (gs.length : Int)) = True := by simp; omega
      simp only [ya, zt, ym, zb, zz, yb, zm, zc, zp, zo, zf, ze, zd, List.set_cons_succ, List.set_cons_zero, O_mv, yy, yg, ye, List.map_cons, List.map_nil, vt, zx, zk, xt, y5, x9, y7, yd, yx, qf, wm, List.length_cons, List.length_nil, Nat.reduceAdd, Nat.zero_add, zn, yc, zy, za, zi, yp, xa, z7, zl, yr, z6, yu, yo, yh, zu, zr, Nat.add_zero, Option.map_some, eq_self, yq, decide_true, h1, a1, a2, gc, zfi, q1, xq (k := k) (by omega)]
      exact ⟨K2, junk rfl, by rw [zrE, zaf hg]; exact w2, (kc.trans (KC.more _ _)).trans k2⟩
    · rintro st ⟨K, ⟨j, rfl⟩, w, kc⟩
      have h1 : ((gs.length : Int) < (gs.length : Int)) = False := by simp
      simp only [ya, zt, vj, zb, zw, yb, zm, zc, zo, ze, zd, List.set_cons_succ, List.set_cons_zero, yy, yg, wm, zn, yc, za, yz, fi, xo, decide_false, h1, fi]
      rw [zrE, List.take_length] at w
      exact ⟨K, junk rfl, w, kc⟩
    rintro st ⟨K, ⟨j, rfl⟩, w, kc⟩
    simp only [ya, zb, yb, zm, zc, zf, List.set_cons_succ, List.set_cons_zero, O_mv, zn, yc, zy, za, yk]
    refine zue 7 (WlI h h0 q km u kn gs fin) (WlO h0 q km u fin) ?_ (recK gs + 1) _ ⟨K, _, true, junk rfl, w, kc, I0, .inl ⟨rfl, _, rfl, hE, hfin.symm⟩⟩ ?_
    · rintro m st ⟨K, en, c, ⟨j, rfl⟩, w, kc, I, ⟨rfl, n, rfl, hE, hf⟩ | ⟨rfl, rfl⟩⟩
      · have rgK := rg K kc
        simp only [ya, zt, ym, zb, zz, yb, zm, zc, zo, zf, ze, zd, List.set_cons_succ, List.set_cons_zero, O_mv, yg, fq, zx, zk, Nat.zero_add, zn, yc, zy, za, xa, z7, List.getElem?_cons_zero, List.getElem?_cons_succ, rgK, lens]
        refine bz 9 gs.length (RdI h h0 q km u en gs s) (RdO h h0 q km u en gs) ?_ ?_ _ ⟨K, junk rfl, w, kc⟩ ?_
        · rintro k st hk ⟨K, ⟨j, rfl⟩, w, kc⟩
          have hg : gs[k]? = some gs[k] := List.getElem?_eq_getElem hk
          obtain ⟨b, S', b', o, v, a1, a2, t⟩ := zxi hs G (k0.trans kc) hg
          obtain ⟨c, row, K2, q1, q2, w2, k2, hc⟩ := yd8 GG I w kc hg t
          have h1 : ((k : Int) < (gs.length : Int)) = True := by simp; omega
          have ag : zbo (K ++ [.cells (qi gs[k] (pt b)) 0 false]) (.pointer (some ⟨K.length, 0, some 0⟩)) (str gs[k].name) = some (undef, K ++ [.cells (qi gs[k] (pt b)) 0 false]) := zux (by simp [Heap.read1, qi])
          cases c
          · simp only [ya, zt, ym, zb, zz, yb, zm, yi, zc, zp, y4, zo, zf, ze, zd, List.set_cons_succ, List.set_cons_zero, O_mv, y0, xi, yy, yg, ye, List.map_cons, List.map_nil, vt, zx, zk, xt, y5, qf, wm, List.length_cons, List.length_nil, Nat.reduceAdd, Nat.zero_add, zn, yc, zy, za, zi, yp, xa, z7, zl, yr, z6, yu, yo, yh, zu, zr, Nat.add_zero, Option.map_some, eq_self, zcw, yq, decide_true, h1, a1, a2, gc, zfi, zej, q1, ag, q2, xq (k := k) (by omega)]
            rw [Bool.or_false] at hc
            exact ⟨K2, by rw [hc]; exact junk rfl, w2, k2⟩
          · simp only [ya, zt, ym, zb, zz, yb, zm, yi, zc, zp, wq, zo, zf, ze, zd, List.set_cons_succ, List.set_cons_zero, O_mv, y0, xi, yy, yg, ye, List.map_cons, List.map_nil, vt, zx, zk, xt, y5, qf, wm, List.length_cons, List.length_nil, Nat.reduceAdd, Nat.zero_add, zn, yc, zy, za, zi, yp, xa, z7, zl, yr, z6, yu, yo, yh, zu, zr, Nat.add_zero, Option.map_some, eq_self, zcw, yq, decide_true, h1, a1, a2, gc, zfi, zej, q1, ag, q2, xq (k := k) (by omega)]
            rw [Bool.or_true] at hc
            exact ⟨K2, by rw [hc]; exact junk rfl, w2, k2⟩
        · rintro st ⟨K, ⟨j, rfl⟩, w, kc⟩
          have h1 : ((gs.length : Int) < (gs.length : Int)) = False := by simp
          simp only [ya, zt, vj, zb, zw, yb, zm, zc, zo, ze, zd, List.set_cons_succ, List.set_cons_zero, yy, yg, wm, zn, yc, za, yz, fi, xo, decide_false, h1, fi]
          have e : rdE u en gs gs.length = zca u gs en := by unfold rdE zca; rw [List.take_length]
          rw [e] at w
          exact ⟨K, by rw [e]; exact junk rfl, w, kc⟩
        rintro st ⟨K, ⟨j, rfl⟩, w, kc⟩
        simp only [zi, yk, vz]
        obtain ⟨I2, _, _⟩ := zhq GG gs (en, false) (fun g hg => hg) I
        cases n with
        | zero => exact hE.elim
        | succ n =>
          rw [Ends] at hE
          rw [recN] at hf
          rcases hE with hE | ⟨hE, hE2⟩
          · rw [if_neg (by rw [hE]; simp)] at hf
            exact ⟨0, by omega, K, _, _, junk rfl, w, kc, I2, .inr ⟨hE, hf⟩⟩
          · rw [if_pos hE] at hf
            exact ⟨n + 1, by omega, K, _, _, junk rfl, w, kc, I2, .inl ⟨hE, n, rfl, hE2, hf⟩⟩
      · simp only [ya, zt, vj, zb, zw, yb, zm, zc, zo, ze, zd, List.set_cons_succ, List.set_cons_zero, O_mv, zn, yc, za, yz, py, fi, fi]
        exact ⟨K, junk rfl, w, kc⟩
    rintro st ⟨K, ⟨j, rfl⟩, w, kc⟩
    simp only [ya, xc, zb, yb, zm, zc, zf, ze, zd, List.set_cons_succ, List.set_cons_zero, O_mv, zn, yc, za, zi, yk, wg, eq_self]
    exact ⟨trivial, W.fin w _, (k0.trans kc).fin _⟩
  obtain ⟨v, h', hq, rfl, hw, hk⟩ := this
  exact ⟨h', hq, hw, hk⟩
end Go.Proofs.YtljdbheclfaloaaGreatDoor.AM
namespace Go.Proofs.YtljdbheclfaloaaGreatDoor.AM
open Go.RowKit
set_option linter.unusedSimpArgs false
set_option linter.unusedVariables false
set_option maxRecDepth 20000

def zpi (kn : Kn) : Stm → Prop
  | .lets false gs => gs.length ≤ 8192 ∧ (∀ g ∈ gs, Typ kn g.e) ∧ (∀ g ∈ gs, jo kn g.name = none) ∧ (gs.map (·.name)).Nodup
  | .lets true gs => gs.length ≤ 8192 ∧ RecG (kn ++ gs.map fun g => (g.name, false)) (gs.map (·.name)) gs ∧ (∀ g ∈ gs, jo kn g.name = none) ∧ (gs.map (·.name)).Nodup
  | .chk _ x _ => Typ kn x
def zpu : Kn → List Stm → Prop
  | _, [] => True
  | kn, s :: l => zpi kn s ∧ zpu (kn ++ s.given) l
structure EnI (kn : Kn) (env : En) : Prop where
  kd : KdOk kn env
  z : S0 env
theorem zkh {kn : Kn} : ∀ {gs : List Gv} {n : Nat} {here : List Bys}, zan kn n here gs = .ok () → (∀ g ∈ gs, jo kn g.name = none ∧ g.name ∉ here) ∧ (gs.map (·.name)).Nodup
  | [], n, here, h => ⟨by simp, by simp⟩
  | g' :: gs, n, here, h => by
    rw [zan] at h
    split at h
    · cases h
    · rename_i h1
      split at h
      · cases h
      · have h1 := Bool.not_eq_true _ |>.mp h1
        rw [Bool.or_eq_false_iff] at h1
        obtain ⟨a, b⟩ := zkh h
        refine ⟨fun g hg => ?_, ?_⟩
        · rcases List.mem_cons.1 hg with rfl | hg
          · exact ⟨by simpa using h1.1, by simpa using h1.2⟩
          · exact ⟨(a g hg).1, fun hh => (a g hg).2 (by simp [hh])⟩
        · rw [List.map_cons, List.nodup_cons]
          refine ⟨fun hh => ?_, b⟩
          obtain ⟨g, hg, he⟩ := List.mem_map.1 hh
          exact (a g hg).2 (by simp [he])
theorem zw7 {gs : List Gv} (h : (gs.map (·.name)).Nodup) : ∀ g ∈ gs, ∀ g' ∈ gs, g.name = g'.name → g = g' := by
  induction gs with
  | nil => intro g hg; cases hg
  | cons x gs ih =>
    rw [List.map_cons, List.nodup_cons] at h
    intro g hg g' hg' e
    rcases List.mem_cons.1 hg with h1 | h1 <;> rcases List.mem_cons.1 hg' with h2 | h2
    · rw [h1, h2]
    · subst h1; exact absurd (List.mem_map.2 ⟨g', h2, e.symm⟩) h.1
    · subst h2; exact absurd (List.mem_map.2 ⟨g, h1, e⟩) h.1
    · exact ih h.2 g h1 g' h2 e
theorem zx7 {F : Gv → Vv} : ∀ {gs : List Gv} {kn : Kn} {env : En}, KdOk kn env → (∀ g ∈ gs, jo kn g.name = none) → (gs.map (·.name)).Nodup → KdOk (kn ++ k7 gs) (gs.foldl (fun en g => setE g.name g.e.set (F g) en) env)
  | [], kn, env, k, _, _ => by simpa [k7] using k
  | g :: gs, kn, env, k, hf, hn => by
    rw [List.map_cons, List.nodup_cons] at hn
    have h0 := hf g (by simp)
    have k1 : KdOk (kn ++ [(g.name, g.e.set)]) (setE g.name g.e.set (F g) env) := fun w => by
      rw [xh, gx]
      by_cases hw : w = g.name
      · subst hw
        rw [if_pos (by simp), h0]; simp [jo]
      · rw [if_neg (by simpa using hw), k w]
        have : jo [(g.name, g.e.set)] w = none := by rw [jo, if_neg (by simpa using hw)]; rfl
        rw [this, Option.or_none]
    have := zx7 (F := F) (gs := gs) k1 (fun g' hg' => by
      rw [gx, hf g' (by simp [hg'])]
      have : g'.name ≠ g.name := fun e => hn.1 (List.mem_map.2 ⟨g', hg', e⟩)
      rw [Option.none_or, jo, if_neg (by simpa using this)]; rfl) hn.2
    rw [List.append_assoc] at this
    exact this
theorem zyy {F : Gv → Vv} : ∀ {gs : List Gv} {env : En}, S0 env → (∀ g ∈ gs, g.e.set = false → (F g).s = 0#32) → S0 (gs.foldl (fun en g => setE g.name g.e.set (F g) en) env)
  | [], env, z, _ => z
  | g :: gs, env, z, hf => by
    refine zyy (gs := gs) (fun w v h => ?_) fun g' hg' => hf g' (by simp [hg'])
    rw [xh] at h
    by_cases hw : w = g.name
    · rw [if_pos (by simpa using hw)] at h
      simp only [Option.some.injEq, Prod.mk.injEq] at h
      obtain ⟨h1, rfl⟩ := h
      exact hf g (by simp) h1
    · rw [if_neg (by simpa using hw)] at h; exact z w v h
theorem zkx {u : U} {kn : Kn} {gs : List Gv} {env : En} (e : EnI kn env) (hf : ∀ g ∈ gs, jo kn g.name = none) : RecI u (kn ++ gs.map fun g => (g.name, false)) gs (zdm gs env) := by
  refine ybx e.kd e.z fun w => ?_
  rw [gx]
  have key : ∀ l : List Gv, jo (l.map fun g => (g.name, false)) w = if l.any (fun g => w == g.name) then some false else none := by
    intro l
    induction l with
    | nil => rfl
    | cons g l ih =>
      rw [List.map_cons, jo, ih, List.any_cons]
      cases w == g.name <;> simp
  rw [key]
  split
  · rename_i h
    obtain ⟨g, hg, he⟩ := List.any_eq_true.1 h
    have : w = g.name := eq_of_beq he
    rw [this, hf g hg]; rfl
  · exact Option.or_none
theorem ycl {u : U} {kn : Kn} {env : En} {st : Stm} (ok : zpi kn st) (e : EnI kn env) : EnI (kn ++ st.given) (doE u env st) := by
  cases st with
  | chk k x a => simpa [Stm.given, doE] using e
  | lets rc gs =>
    cases rc with
    | false =>
      obtain ⟨_, ty, hf, hn⟩ := ok
      exact ⟨zx7 e.kd hf hn, zyy e.z fun g hg hs => zpx e.kd e.z (ty g hg) hs⟩
    | true =>
      obtain ⟨_, G, hf, hn⟩ := ok
      have := (zy4 G (recK gs) _ (zkx (u := u) e hf)).1
      have hs : k7 gs = gs.map fun g => (g.name, false) := List.map_congr_left fun g hg => by rw [G.st g hg]
      show EnI (kn ++ k7 gs) _
      rw [hs]
      exact ⟨this.kd, this.z⟩
theorem yd7 {kn : Kn} {n : Nat} {s s' : Stm} (h : chkS kn n s = .ok s') (hl : ∀ rc gs, s = .lets rc gs → gs.length ≤ 8192) : zpi kn s' := by
  cases s with
  | chk k x a =>
    rw [chkS] at h
    split at h
    · cases h
    · rename_i x' hx
      split at h
      · cases h
      · cases h; exact zeg hx
  | lets rc gs =>
    have hl := hl rc gs rfl
    rw [chkS] at h
    split at h
    · cases h
    · rename_i hf
      split at h
      · cases h
      · rename_i l hg
        cases h
        obtain ⟨f1, f2⟩ := zkh hf
        have hnm := zg9 hg
        have hnames : l.map (·.name) = gs.map (·.name) := by
          have := congrArg (List.map Prod.fst) hnm
          simpa [List.map_map, Function.comp_def] using this
        have hll : l.length = gs.length := by have := congrArg List.length hnm; simpa using this
        have hfr : ∀ g ∈ l, jo kn g.name = none := fun g hgm => by
          have : g.name ∈ gs.map (·.name) := by rw [← hnames]; exact List.mem_map.2 ⟨g, hgm, rfl⟩
          obtain ⟨g', hg', he⟩ := List.mem_map.1 this
          rw [← he]; exact (f1 g' hg').1
        have each : ∀ {kn rc b} {gs l : List Gv}, zf2 kn rc b gs = .ok l → ∀ g ∈ l, Typ kn g.e ∧ NoR rc false g.e := by
          intro kn rc b gs
          induction gs with
          | nil => intro l h g hg; rw [zf2] at h; cases h; cases hg
          | cons g0 gs ih =>
            intro l h g hg
            rw [zf2] at h
            split at h
            · cases h
            · rename_i x hx
              split at h
              · cases h
              · split at h
                · cases h
                · rename_i l' hl'
                  cases h
                  rcases List.mem_cons.1 hg with rfl | hg
                  · exact ⟨zeg hx, zf9 hx⟩
                  · exact ih hl' g hg
        cases rc with
        | false => exact ⟨by omega, fun g hgm => (each hg g hgm).1, hfr, by rw [hnames]; exact f2⟩
        | true =>
          have e : (gs.map fun g => (g.name, false)) = l.map fun g => (g.name, false) := by
            have := congrArg (List.map fun w : Bys => (w, false)) hnames
            simpa [List.map_map, Function.comp_def] using this.symm
          simp only [if_true] at hg
          refine ⟨by omega, ⟨fun g hgm => by rw [← e]; exact (each hg g hgm).1, zmn hg, fun g hgm => by rw [hnames]; exact (each hg g hgm).2, fun g hgm => List.mem_map.2 ⟨g, hgm, rfl⟩, zw7 (by rw [hnames]; exact f2)⟩, hfr, by rw [hnames]; exact f2⟩
theorem zzc : ∀ {l l' : List Stm} {kn : Kn} {n : Nat}, chkM kn n l = .ok l' → (∀ rc gs, Stm.lets rc gs ∈ l → gs.length ≤ 8192) → zpu kn l'
  | [], l', kn, n, h, _ => by rw [chkM] at h; cases h; trivial
  | s :: l, l', kn, n, h, hl => by
    rw [chkM] at h
    split at h
    · cases h
    · rename_i s' hs
      split at h
      · cases h
      · rename_i l2 hl2
        cases h
        exact ⟨yd7 hs fun rc gs e => hl rc gs (by simp [e]), zzc hl2 fun rc gs hm => hl rc gs (by simp [hm])⟩
theorem yfq {h : Heap} {q km : Nat} {u : U} {kn : Kn} {env : En} {T : Nat → Prop} {row : List Value} {st : Stm} (W : Wd h q km u env) (p : StP h T row st) (ok : zpi kn st) (e : EnI kn env) :
    ∃ h', DF FF qr [pt q, agg row] h = some (.bool (zx8 u env st), h') ∧ Wd h' q km u (doE u env st) ∧ KC km h h' := by
  cases st with
  | chk k x a =>
    obtain ⟨v, rfl, t⟩ := p
    exact ⟨h, ya2 W t k a, W, KC.refl _⟩
  | lets rc gs =>
    obtain ⟨s, vs, S, rfl, hs, G, _, _⟩ := p
    cases rc with
    | false =>
      obtain ⟨hl, ty, hf, hn⟩ := ok
      exact ycb W hs G hl e.kd ty
    | true =>
      obtain ⟨hl, RG, hf, hn⟩ := ok
      exact ybt W hs G hl RG (zkx e hf)
end Go.Proofs.YtljdbheclfaloaaGreatDoor.AM
namespace Go.Proofs.YtljdbheclfaloaaGreatDoor.AM
open Go.RowKit
set_option linter.unusedSimpArgs false
set_option linter.unusedVariables false
set_option maxRecDepth 20000

def za6 (bl : En) : List (List Value) := bl.map fun p => w4 p.1 p.2.1 p.2.2
def isD (d : Bys × Bool) (p : Bys × Bool × Vv) : Bool := p.1 == d.1 && p.2.1 == d.2
def idxD (d : Bys × Bool) : En → Option Nat
  | [] => none
  | p :: r => if isD d p then some 0 else (idxD d r).map (· + 1)
def znr (d : Bys × Bool) (bl : En) : Vv := match bl.find? (isD d) with
  | none => v0
  | some p => if d.2 then ⟨p.2.2.s, fun _ => 0#32⟩ else ⟨0#32, p.2.2.r⟩
theorem zqc (d : Bys × Bool) : ∀ bl : En, (bl.find? (isD d)) = (idxD d bl).bind fun i => bl[i]?
  | [] => rfl
  | p :: r => by
    rw [List.find?_cons, idxD]
    cases isD d p
    · simp only [Bool.false_eq_true, if_false]
      rw [zqc d r]
      cases idxD d r <;> rfl
    · rfl
theorem zzq (d : Bys × Bool) : ∀ {bl : En} {i : Nat}, idxD d bl = some i → i < bl.length
  | [], i, h => by cases h
  | p :: r, i, h => by
    rw [idxD] at h
    split at h
    · cases h; simp
    · cases hr : idxD d r with
      | none => rw [hr] at h; cases h
      | some k => rw [hr] at h; cases h; have := zzq d hr; simp; omega
theorem zxx (d : Bys × Bool) (bl : En) {k : Nat} {p : Bys × Bool × Vv} (h : bl[k]? = some p) : idxD d (bl.drop k) = if isD d p then some 0 else (idxD d (bl.drop (k + 1))).map (· + 1) := by
  obtain ⟨hk, rfl⟩ := List.getElem?_eq_some_iff.1 h
  rw [List.drop_eq_getElem_cons hk, idxD]
set_option maxHeartbeats 4000000 in
theorem yad (d : Bys × Bool) (p : Bys × Bool × Vv) {h : Heap} {c : Nat} (hc : h[c]? = some (.cells (wz d) 0 false)) : DF FF gn [agg (w4 p.1 p.2.1 p.2.2), pt c] h = some (.bool (isD d p), h) := by
  refine wh zg0 ?_
  have rc : ∀ L j, Heap.read1 (h ++ L) ⟨c, j, some 0⟩ = (wz d)[j]? := fun L j => x8 (y6 L hc)
  cases hn : p.1 == d.1
  · simp only [pv, ya, xc, zb, yb, zm, yi, zc, vw, zo, zf, ze, zd, List.set_cons_succ, List.set_cons_zero, O_mv, y0, xi, yy, yg, zx, zk, List.cons_append, List.nil_append, List.length_cons, List.length_nil, Nat.reduceAdd, Nat.reduceSub, Nat.zero_add, zn, yc, za, w6, xa, z7, yu, yo, zh, zg, Nat.add_zero, List.getElem?_cons_zero, eq_self, yf, zs, va, jp, bd_0, yf, rc, wz, hn]
    rw [zfk _ _ _ _ _ rfl]
    simp only [isD, hn]; rfl
  · simp only [pv, ya, xc, zb, yb, zm, yi, zc, xx, zo, zf, ze, zd, List.set_cons_succ, List.set_cons_zero, O_mv, y0, xi, yy, yg, zx, zk, List.cons_append, List.nil_append, List.length_cons, List.length_nil, Nat.reduceAdd, Nat.reduceSub, Nat.zero_add, zn, yc, za, w6, xa, z7, yu, yo, zh, zg, Nat.add_zero, List.getElem?_cons_zero, List.getElem?_cons_succ, Bool.bne_false, jw, zh9, eq_self, yf, zs, va, jp, bd_0, bd_1, yf, rc, wz, hn, zh9]
    rw [zfk _ _ _ _ _ rfl]
    simp only [isD, hn, Bool.true_and]
    first | rfl | (simp; done) | skip
set_option maxHeartbeats 4000000 in
theorem yeh (d : Bys × Bool) (bl : En) {h : Heap} {s : Value} {c : Nat} (hs : Sl h s 35 (za6 bl)) (hl : bl.length < 4611686018427387904) (hc : h[c]? = some (.cells (wz d) 0 false)) :
    DF FF qx [s, .func (.func gn) [].toArray [pt c].toArray] h = some (.int .i64 (match idxD d bl with | some i => (i : Int) | none => -1), h) := by
  refine wh pg ?_
  have lens : ∀ K, lenO K s = some (.int .i64 (bl.length : Int), K) := fun K => by rw [hs.len]; simp [za6]
  simp only [kg, ya, zb, yb, zm, zc, zo, zf, ze, zd, List.set_cons_succ, List.set_cons_zero, O_mv, fq, List.cons_append, List.nil_append, List.length_cons, List.length_nil, Nat.reduceAdd, Nat.reduceSub, Nat.zero_add, zn, yc, zy, za, zh, zg, lens]
  refine zac bl.length (fun k st => (∃ j : Nat → Value, st = ⟨[s, .func (.func gn) [].toArray [pt c].toArray, j 2, j 3, j 4, j 5, j 6, .int .i64 (bl.length : Int), .int .i64 (k : Int), j 9, j 10, j 11, j 12, j 13, j 14, j 15, j 16, j 17, j 18], h⟩) ∧ idxD d bl = (idxD d (bl.drop k)).map (· + k)) ?_ ?_ _ ⟨junk rfl, by rw [List.drop_zero]; cases idxD d bl <;> rfl⟩
  · rintro k st hk ⟨⟨j, rfl⟩, e⟩
    obtain ⟨b', o, v, a1, a2⟩ := hs.atH (k := k) (by simpa [za6] using hk)
    have h1 : ((k : Int) < (bl.length : Int)) = True := by simp; omega
    have hb : bl[k]? = some bl[k] := List.getElem?_eq_getElem hk
    have a3 : Heap.read h ⟨b', o, some v⟩ 35 = some (w4 bl[k].1 bl[k].2.1 bl[k].2.2) := by rw [a2]; simp [za6]
    have q1 := yad d bl[k] hc
    rw [zxx d bl hb] at e
    cases hi : isD d bl[k]
    · rw [hi] at q1 e
      simp only [ya, zt, ym, zb, zz, zw, yb, zm, zc, zo, zf, ze, zd, List.set_cons_succ, List.set_cons_zero, O_mv, yy, yg, List.map_cons, List.map_nil, vt, xt, y5, qf, wm, List.cons_append, List.nil_append, zn, yc, zy, za, zi, Option.map_some, yq, decide_true, h1, a1, a3, bn, jl, q1, xq (k := k) (by omega)]
      refine ⟨junk rfl, ?_⟩
      rw [e]
      simp only [Bool.false_eq_true, if_false, Option.map_map]
      congr 1
      funext x
      simp only [Function.comp_def]; omega
    · rw [hi] at q1 e
      simp only [ya, zt, xc, ym, zb, zz, yb, zm, zc, zo, ze, zd, List.set_cons_succ, List.set_cons_zero, O_mv, yy, yg, List.map_cons, List.map_nil, vt, xt, y5, wm, List.cons_append, List.nil_append, zn, yc, zy, za, y9, wd, zcu, Option.map_some, zdj, decide_true, h1, a1, a3, bn, jl, q1]
      rw [e]
      simp
      done
  · rintro st ⟨⟨j, rfl⟩, e⟩
    have h1 : ((bl.length : Int) < (bl.length : Int)) = False := by simp
    simp only [ya, zt, vj, xc, zb, zw, yb, zm, zc, zo, zf, ze, zd, List.set_cons_succ, List.set_cons_zero, O_mv, yy, yg, wm, zn, yc, za, yz, yk, zcu, xo, decide_false, h1]
    rw [e, List.drop_length]
    simp [idxD]
    done
end Go.Proofs.YtljdbheclfaloaaGreatDoor.AM
namespace Go.Proofs.YtljdbheclfaloaaGreatDoor.AM
open Go.RowKit
set_option linter.unusedSimpArgs false
set_option linter.unusedVariables false
set_option maxRecDepth 20000

theorem yar {h : Heap} {b o n : Nat} {v : Option Nat} {l : List Value} (e : h.read ⟨b, o, v⟩ n = some l) {i m : Nat} (hi : i + m ≤ n) : h.read ⟨b, o + i, v⟩ m = some ((l.drop i).take m) := by
  unfold Heap.read at e ⊢
  simp only at e ⊢
  cases hb : h[b]? with
  | none => rw [hb] at e; cases e
  | some x =>
    rw [hb] at e
    cases x with
    | cells c w ro =>
      simp only at e ⊢
      split at e
      · rename_i hc
        rw [if_pos ⟨hc.1, by omega⟩]
        cases e
        congr 1
        rw [List.drop_take, List.drop_drop, List.take_take, Nat.min_eq_left (by omega)]
      · cases e
    | map es => cases e
    | gone => cases e
theorem v0_s : v0.s = 0#32 := rfl
theorem v0_r : v0.r = fun _ => 0#32 := rfl
def begE (known : Kn) (bl : En) (k : Nat) : En := (known.take k).foldl (fun en d => setE d.1 d.2 (znr d bl) en) []
structure BgS (h : Heap) (u : U) (known : Kn) (bl : En) (k : Nat) (K : Heap) : Prop where
  w : Wd K (h.length + 1) h.length u (begE known bl k)
  p : Pre h K
theorem ygb {h K : Heap} {u : U} {known : Kn} {bl : En} {k : Nat} (e : BgS h u known bl k K) {d : Bys × Bool} (hd : known[k]? = some d) (a : List Value) :
    ∃ K', updO (K ++ [.cells a 0 false, .cells (w4 d.1 d.2 (znr d bl)) 0 false]) .str (.map (some h.length)) (str d.1) (agg (w4 d.1 d.2 (znr d bl))) = some (undef, K') ∧ BgS h u known bl (k + 1) K' := by
  refine ⟨_, zni _ (e.w.more _).hk (ydb d.1 d.2 (znr d bl) _), ?_, (e.p.more _).set (Nat.le_refl _) _⟩
  have e2 : begE known bl (k + 1) = setE d.1 d.2 (znr d bl) (begE known bl k) := zaf hd _ _
  rw [e2]
  exact (e.w.more _).set _
def BgI (h : Heap) (u : U) (known : Kn) (bl : En) (bs ks : Value) (k : Nat) (st : St) : Prop := ∃ K, (∃ j : Nat → Value, st = ⟨[j 0, j 1, bs, j 3, j 4, j 5, j 6, pt (h.length + 1), j 8, j 9, j 10, j 11, j 12, j 13, j 14, j 15, j 16, j 17, j 18, ks, .int .i64 (known.length : Int), .int .i64 (k : Int), j 22, j 23, j 24, j 25, j 26, j 27, j 28, j 29, j 30, j 31, j 32, j 33, j 34, j 35, j 36, j 37, j 38, j 39, j 40, j 41, j 42, j 43, j 44, j 45, j 46, j 47, j 48, j 49, j 50, j 51, j 52, j 53, j 54, j 55, j 56, j 57, j 58, j 59], K⟩) ∧ BgS h u known bl k K
def BgO (h : Heap) (u : U) (known : Kn) (bl : En) (st : St) : Prop := ∃ K, (∃ j : Nat → Value, st = ⟨[j 0, j 1, j 2, j 3, j 4, j 5, j 6, pt (h.length + 1), j 8, j 9, j 10, j 11, j 12, j 13, j 14, j 15, j 16, j 17, j 18, j 19, j 20, j 21, j 22, j 23, j 24, j 25, j 26, j 27, j 28, j 29, j 30, j 31, j 32, j 33, j 34, j 35, j 36, j 37, j 38, j 39, j 40, j 41, j 42, j 43, j 44, j 45, j 46, j 47, j 48, j 49, j 50, j 51, j 52, j 53, j 54, j 55, j 56, j 57, j 58, j 59], K⟩) ∧ BgS h u known bl known.length K
set_option maxHeartbeats 8000000 in
theorem zx0 {h : Heap} {mb : Nat} {u : U} {known : Kn} {bl : En} {bs ks ss : Value} (hm : h[mb]? = some (.cells [ks, ss] 0 false)) (hk : Sl h ks 2 (known.map wz)) (hkl : known.length ≤ 10000) (hb : Sl h bs 35 (za6 bl)) (hbl : bl.length < 4611686018427387904) :
    ∃ h', DF FF fr [pt mb, .int .u32 (u.toNat : Int), bs] h = some (pt (h.length + 1), h') ∧ Wd h' (h.length + 1) h.length u (begE known bl known.length) ∧ Pre h h' := by
  have : ∃ v h', DF FF fr [pt mb, .int .u32 (u.toNat : Int), bs] h = some (v, h') ∧ (v = pt (h.length + 1) ∧ Wd h' (h.length + 1) h.length u (begE known bl known.length) ∧ Pre h h') := by
    refine wx ziu ?_
    have rm : ∀ L j, Heap.read1 (h ++ L) ⟨mb, j, some 0⟩ = ([ks, ss] : List Value)[j]? := fun L j => x8 (y6 L hm)
    have lens : ∀ K, lenO K ks = some (.int .i64 (known.length : Int), K) := fun K => by rw [hk.len, List.length_map]
    have fw : wo [.int .u32 0, .map none] [(0, 1, .int .u32 (u.toNat : Int)), (1, 1, .map (some h.length))] = some [.int .u32 (u.toNat : Int), .map (some h.length)] := by
      rw [wt _ (by simp), zun _ (by simp), yx]; rfl
    have s0 : BgS h u known bl 0 (h ++ [.map [], .cells [.int .u32 (u.toNat : Int), .map (some h.length)] 0 false]) := ⟨⟨by simp, by simp [begE, enE]⟩, ⟨_, rfl⟩⟩
    simp only [zdr, ya, zb, yb, zm, zc, zo, zf, ze, zd, List.set_cons_succ, List.set_cons_zero, O_mv, yg, fq, zx, zk, x9, y7, yd, z8, List.cons_append, List.nil_append, List.length_cons, List.length_nil, Nat.reduceAdd, Nat.reduceSub, Nat.zero_add, zn, yc, zy, za, w6, xa, z7, zq, zj, zh, zg, List.append_assoc, List.length_append, Nat.add_zero, List.getElem?_cons_zero, eq_self, yf, zs, yj, f6, zes, fw, yf, zs, rm, lens]
    refine bz 0 known.length (BgI h u known bl bs ks) (BgO h u known bl) ?_ ?_ _ ⟨_, junk rfl, s0⟩ ?_
    · rintro k st hk' ⟨K, ⟨j, rfl⟩, e⟩
      have hd : known[k]? = some known[k] := List.getElem?_eq_getElem hk'
      obtain ⟨b', o, v, a1, a2⟩ := (hk.pre e.p).atH (k := k) (by simpa using hk')
      have a2 : Heap.read K ⟨b', o, some v⟩ 2 = some (wz known[k]) := by rw [a2]; simp
      obtain ⟨d, hdd⟩ : ∃ d, d = known[k] := ⟨_, rfl⟩
      rw [← hdd] at a2 hd
      have h1 : ((k : Int) < (known.length : Int)) = True := by simp; omega
      have rq : ∀ L j, Heap.read1 (K ++ L) ⟨h.length + 1, j, some 0⟩ = ([.int .u32 (u.toNat : Int), .map (some h.length)] : List Value)[j]? := fun L j => x8 (e.w.more L).hq
      obtain ⟨H1, hH1⟩ : ∃ H1, H1 = K ++ [AObj.cells (wz d) 0 false, AObj.cells (w4 d.1 d.2 v0) 0 false] := ⟨_, rfl⟩
      have hb1 : Sl H1 bs 35 (za6 bl) := by rw [hH1]; exact (hb.pre e.p).more _
      have q1 := yeh d bl (h := H1) (s := bs) (c := K.length) hb1 hbl (by rw [hH1]; simp)
      rw [hH1] at q1
      obtain ⟨K', w1, e'⟩ := ygb e hd (wz d)
      have hp : znr d bl = match idxD d bl with | none => v0 | some i => match bl[i]? with | none => v0 | some p => if d.2 then ⟨p.2.2.s, fun _ => 0#32⟩ else ⟨0#32, p.2.2.r⟩ := by
        unfold znr; rw [zqc]
        cases idxD d bl <;> rfl
      cases hi : idxD d bl with
      | none =>
        rw [hi] at q1 hp
        simp only at q1 hp
        rw [hp] at w1
        simp only [wz] at a2 q1 w1
        simp only [ya, zt, ym, zb, zz, yb, zm, zc, zp, zo, zf, ze, zd, List.set_cons_succ, List.set_cons_zero, O_mv, yy, yg, ye, List.map_cons, List.map_nil, vt, zx, zk, xt, y5, x9, y7, yd, z8, yx, bf, Nat.zero_lt_succ, Nat.reduceLT, qf, wm, List.cons_append, List.nil_append, List.length_cons, List.length_nil, Nat.reduceAdd, Nat.zero_add, zn, yc, zy, za, zi, yp, xa, z7, zl, yr, z6, zq, zj, yu, yo, qp, jb, xd, yh, w8, ve, zu, vk, zr, List.append_assoc, List.length_append, Nat.add_zero, Option.map_some, List.getElem?_cons_zero, List.getElem?_cons_succ, Int.reduceLT, eq_self, yq, wk, decide_true, jp, zhd, zdf, h1, a1, a2, gw, q1, rq, fx, w1, xq (k := k) (by omega)]
        exact ⟨K', junk rfl, e'⟩
      | some i =>
        have hlt := zzq d hi
        have hb0 : bl[i]? = some bl[i] := List.getElem?_eq_getElem hlt
        rw [hi] at q1 hp
        simp only [hb0] at q1 hp
        obtain ⟨b2, o2, v2, r1, r2⟩ := hb1.atH (k := i) (by simpa [za6] using hlt)
        have r2 : Heap.read H1 ⟨b2, o2, some v2⟩ 35 = some (w4 bl[i].1 bl[i].2.1 bl[i].2.2) := by rw [r2]; simp [za6]
        have r3 := yap r2 (bd_2 bl[i].1 bl[i].2.1 bl[i].2.2)
        have r4 := yar r2 (i := 3) (m := 32) (by decide)
        rw [zya] at r4
        rw [hH1] at r3 r4
        have hneg : ((i : Int) < 0) = False := by simp
        cases hd2 : d.2
        · rw [hd2] at w1 hp q1 r3 r4 hH1
          rw [hp] at w1
          simp only [wz, hd2, Bool.false_eq_true, if_false] at a2 q1 w1 r3 r4
          simp only [ya, zt, ym, zb, zz, zw, yb, zm, zc, zp, zo, zf, ze, zd, List.set_cons_succ, List.set_cons_zero, O_mv, yy, yg, ye, List.map_cons, List.map_nil, vt, zx, zk, xt, y5, x9, y7, yd, z8, yx, bf, Nat.zero_lt_succ, Nat.reduceLT, qf, wm, List.cons_append, List.nil_append, List.length_cons, List.length_nil, Nat.reduceAdd, Nat.zero_add, zn, yc, zy, za, zi, yp, xa, z7, zl, yr, z6, zq, zj, yu, yo, qp, jb, xd, yh, w8, ve, zu, vk, zr, List.append_assoc, List.length_append, Nat.add_zero, Option.map_some, List.getElem?_cons_zero, List.getElem?_cons_succ, eq_self, yq, wk, decide_true, decide_false, xr, jp, zhd, zdf, ya8, h1, a1, a2, gw, q1, hneg, r1, r4, v0_s, rq, fx, w1, xq (k := k) (by omega)]
          exact ⟨K', junk rfl, e'⟩
        · rw [hd2] at w1 hp q1 r3 r4 hH1
          rw [hp] at w1
          simp only [wz, hd2, if_true] at a2 q1 w1 r3 r4
          simp only [ya, zt, ym, zb, zz, zw, yb, zm, zc, zp, zo, zf, ze, zd, List.set_cons_succ, List.set_cons_zero, O_mv, yy, yg, ye, List.map_cons, List.map_nil, vt, zx, zk, xt, y5, x9, y7, yd, z8, yx, bf, Nat.zero_lt_succ, Nat.reduceLT, qf, wm, List.cons_append, List.nil_append, List.length_cons, List.length_nil, Nat.reduceAdd, Nat.zero_add, zn, yc, zy, za, zi, yp, xa, z7, zl, xb, xz, yr, z6, zq, zj, yu, yo, qp, jb, xd, yh, w8, ba, b5, vo, ve, zu, vk, zr, List.append_assoc, List.length_append, Nat.add_zero, Option.map_some, List.getElem?_cons_zero, List.getElem?_cons_succ, eq_self, yq, wk, decide_true, decide_false, jp, zhd, zdf, zy7, h1, a1, a2, gw, q1, hneg, r1, r3, v0_r, rq, fx, w1, xq (k := k) (by omega)]
          exact ⟨K', junk rfl, e'⟩
    · rintro st ⟨K, ⟨j, rfl⟩, e⟩
      have h1 : ((known.length : Int) < (known.length : Int)) = False := by simp
      simp only [ya, zt, vj, zb, zw, yb, zm, zc, zo, ze, zd, List.set_cons_succ, List.set_cons_zero, yy, yg, wm, zn, yc, za, yz, fi, xo, decide_false, h1, fi]
      exact ⟨K, junk rfl, e⟩
    rintro st ⟨K, ⟨j, rfl⟩, e⟩
    simp only [ya, xc, zb, yb, zm, zc, zo, ze, zd, List.set_cons_succ, List.set_cons_zero, O_mv, zn, yc, za, yk, wg, eq_self, k8]
    exact ⟨trivial, e.w, e.p⟩
  obtain ⟨v, h', hq, rfl, hw, hp⟩ := this
  exact ⟨h', hq, hw, hp⟩
end Go.Proofs.YtljdbheclfaloaaGreatDoor.AM
namespace Go.Proofs.YtljdbheclfaloaaGreatDoor.AM
open Go.RowKit
set_option linter.unusedSimpArgs false
set_option linter.unusedVariables false
set_option maxRecDepth 20000

theorem KC.pre {km : Nat} {h K H : Heap} (p : Pre h K) (k : KC km K H) (hk : h.length ≤ km) : Pre h H :=
  Pre.of (Nat.le_trans p.le k.le) fun b o ho => k.oth b o (p.kept b o ho) (by have := zb3 ho; omega)
def knAt (kn : Kn) (l : List Stm) (k : Nat) : Kn := (l.take k).foldl (fun kn s => kn ++ s.given) kn
def enAt (u : U) (env : En) (l : List Stm) (k : Nat) : En := (l.take k).foldl (doE u) env
theorem zsl : ∀ {l : List Stm} {kn : Kn} {k : Nat} {s : Stm}, zpu kn l → l[k]? = some s → zpi (knAt kn l k) s
  | [], kn, k, s, h, hk => by simp at hk
  | x :: l, kn, 0, s, h, hk => by cases hk; exact h.1
  | x :: l, kn, k + 1, s, h, hk => zsl (kn := kn ++ x.given) h.2 (by simpa using hk)
theorem zx5 {u : U} : ∀ {l : List Stm} {env : En} {s : Stm} {k : Nat}, l[k]? = some s → zgs u env (l.drop k) = if zx8 u env s then zgs u (doE u env s) (l.drop (k + 1)) else some (zvg s) := by
  intro l env s k h
  rw [zbv h, zgs]
structure HoS (h : Heap) (u : U) (md : Md) (env0 : En) (ss : Value) (k : Nat) (K : Heap) : Prop where
  w : Wd K (h.length + 1) h.length u (enAt u env0 md.l k)
  p : Pre h K
  e : EnI (knAt md.known md.l k) (enAt u env0 md.l k)
theorem zwh {h : Heap} {u : U} {md : Md} {env0 : En} {ss : Value} {k : Nat} {K : Heap} {rows : List (List Value)} {T : Nat → Prop} (hs : Sl h ss 4 rows) (sp : StsP h T rows md.l) (ok : zpu md.known md.l) (e : HoS h u md env0 ss k K) {s : Stm} (hk : md.l[k]? = some s) :
    ∃ row b' o v K', row.length = 4 ∧ row[3]? = some (str (zvg s)) ∧ (∀ H', rowO H' 4 ss (.int .i64 (k : Int)) = some (.pointer (some ⟨b', o, some v⟩), H')) ∧ Heap.read K ⟨b', o, some v⟩ 4 = some row ∧
      DF FF qr [pt (h.length + 1), agg row] (K ++ [.cells row 0 false]) = some (.bool (zx8 u (enAt u env0 md.l k) s), K') ∧ HoS h u md env0 ss (k + 1) K' ∧ K'[K.length]? = some (.cells row 0 false) := by
  obtain ⟨row, Tk, hr, sk, _⟩ := sp.focus hk
  have hlt := (List.getElem?_eq_some_iff.1 hr).1
  obtain ⟨b', o, v, a1, a2⟩ := (hs.pre e.p).atH (k := k) hlt
  have hr' : rows[k] = row := (List.getElem?_eq_some_iff.1 hr).2
  rw [hr'] at a2
  have h4 : row.length = 4 := hs.2 row (List.mem_of_getElem? hr)
  have h3 : row[3]? = some (str (zvg s)) := by
    cases s with
    | lets rc gs => obtain ⟨_, _, _, rfl, _⟩ := sk; rfl
    | chk c x a => obtain ⟨_, rfl, _⟩ := sk; rfl
  have skK : StP (K ++ [AObj.cells row 0 false]) Tk row s := sk.keep fun b o _ ho => y6 _ (e.p.kept b o ho)
  obtain ⟨K', q1, w1, k1⟩ := yfq (e.w.more [.cells row 0 false]) skK (zsl ok hk) e.e
  have e1 : enAt u env0 md.l (k + 1) = doE u (enAt u env0 md.l k) s := zaf hk _ _
  have e2 : knAt md.known md.l (k + 1) = knAt md.known md.l k ++ s.given := zaf hk _ _
  exact ⟨row, b', o, v, K', h4, h3, a1, a2, q1, ⟨by rw [e1]; exact w1, KC.pre (e.p.more _) k1 (Nat.le_refl _), by rw [e1, e2]; exact ycl (zsl ok hk) e.e⟩, k1.keep _ _ _ _ (by simp)⟩
theorem yci {h K : Heap} (p : Pre h K) (b : Bool) (w : Bys) : AM.finish h (tup [.bool b, str w]) K = h := by obtain ⟨L, rfl⟩ := p; exact fd h L rfl
def zys : Option Bys → Value
  | none => tup [.bool true, str []]
  | some w => tup [.bool false, str w]
def HoI (h : Heap) (u : U) (md : Md) (env0 : En) (ss : Value) (k : Nat) (st : St) : Prop := ∃ K, (∃ j : Nat → Value, st = ⟨[j 0, j 1, j 2, j 3, j 4, j 5, j 6, j 7, pt (h.length + 1), j 9, j 10, j 11, j 12, j 13, j 14, j 15, j 16, j 17, ss, .int .i64 (md.l.length : Int), .int .i64 (k : Int), j 21, j 22, j 23, j 24, j 25, j 26, j 27, j 28, j 29, j 30], K⟩) ∧ HoS h u md env0 ss k K ∧ zgs u env0 md.l = zgs u (enAt u env0 md.l k) (md.l.drop k)
theorem zu8 {known : Kn} {bl : En} : ∀ k, k ≤ known.length → (known.map (·.1)).Nodup → KdOk (known.take k) (begE known bl k) ∧ S0 (begE known bl k) := by
  intro k
  induction k with
  | zero => intro _ _; exact ⟨fun w => rfl, fun w v h => by simp [begE, vx] at h⟩
  | succ k ih =>
    intro hk hn
    obtain ⟨a, z⟩ := ih (by omega) hn
    have hd : known[k]? = some known[k] := List.getElem?_eq_getElem (by omega)
    have e : begE known bl (k + 1) = setE known[k].1 known[k].2 (znr known[k] bl) (begE known bl k) := zaf hd _ _
    rw [e, List.take_add_one, hd]
    simp only [Option.toList_some]
    have hnew : jo (known.take k) known[k].1 = none := by
      rw [zgk, Option.map_eq_none_iff, List.find?_eq_none]
      intro p hp he
      have he : known[k].1 = p.1 := eq_of_beq he
      obtain ⟨i, hi, hip⟩ := List.getElem_of_mem hp
      rw [List.getElem_take] at hip
      have hik : i < k := by simp at hi; omega
      have := (List.nodup_iff_pairwise_ne.1 hn)
      rw [List.pairwise_iff_getElem] at this
      have := this i k (by simp; omega) (by simp; omega) hik
      simp only [List.getElem_map] at this
      rw [hip] at this
      exact this he.symm
    refine ⟨fun w => ?_, fun w v h => ?_⟩
    · rw [xh, gx]
      by_cases hw : w = known[k].1
      · subst hw
        rw [if_pos (by simp), hnew]; simp [jo]
      · rw [if_neg (by simpa using hw), a w]
        have : jo [known[k]] w = none := by rw [jo, if_neg (by simpa using hw)]; rfl
        rw [this, Option.or_none]
    · rw [xh] at h
      by_cases hw : w = known[k].1
      · rw [if_pos (by simpa using hw)] at h
        simp only [Option.some.injEq, Prod.mk.injEq] at h
        obtain ⟨h1, rfl⟩ := h
        unfold znr
        split
        · rfl
        · rw [h1]; rfl
      · rw [if_neg (by simpa using hw)] at h; exact z w v h
theorem zff : ∀ (ns kn : Kn), (kn.map (·.1)).Nodup → ((b7 kn ns).map (·.1)).Nodup
  | [], kn, h => by rw [b7]; exact h
  | d :: r, kn, h => by
    rw [b7]
    split
    · exact zff r kn h
    · rename_i hd
      refine zff r _ ?_
      rw [List.map_append, List.map_singleton]
      refine List.nodup_append.2 ⟨h, by simp, fun a ha b hb => ?_⟩
      simp at hb
      subst hb
      rintro rfl
      obtain ⟨p, hp, he⟩ := List.mem_map.1 ha
      apply hd
      rw [zgk, Option.isSome_map, List.find?_isSome]
      exact ⟨p, hp, by simp [he]⟩
structure MdOk (md : Md) : Prop where
  nd : (md.known.map (·.1)).Nodup
  ok : zpu md.known md.l
def env0 (md : Md) (bl : En) : En := begE md.known bl md.known.length
theorem zsg {md : Md} (ok : MdOk md) (bl : En) : EnI md.known (env0 md bl) := by
  obtain ⟨a, z⟩ := zu8 (bl := bl) md.known.length (Nat.le_refl _) ok.nd
  rw [List.take_length] at a
  exact ⟨a, z⟩
set_option maxHeartbeats 4000000 in
theorem zlu {h : Heap} {S : Nat → Prop} {mb : Nat} {md : Md} {u : U} {bl : En} {bs : Value} (M : ModP h S mb md) (ok : MdOk md) (hb : Sl h bs 35 (za6 bl)) (hbl : bl.length < 4611686018427387904) :
    DF FF fo [pt mb, .int .u32 (u.toNat : Int), bs] h = some (zys (zgs u (env0 md bl) md.l), h) := by
  obtain ⟨⟨ks, ss, rows, T, hm, hk, hs, sp, _⟩, _, hlen⟩ := M
  have : ∃ v h', DF FF fo [pt mb, .int .u32 (u.toNat : Int), bs] h = some (v, h') ∧ (v = zys (zgs u (env0 md bl) md.l) ∧ h' = h) := by
    refine wx zig ?_
    obtain ⟨H, q0, w0, p0⟩ := zx0 (u := u) hm hk hlen.2.1 hb hbl
    have lens : ∀ K, lenO K ss = some (.int .i64 (md.l.length : Int), K) := fun K => by rw [hs.len, (sp.len).1]
    have rm : ∀ j, Heap.read1 H ⟨mb, j, some 0⟩ = ([ks, ss] : List Value)[j]? := fun j => x8 (p0.kept _ _ hm)
    simp only [zdi, ya, zb, yb, zm, zc, zo, zf, ze, zd, List.set_cons_succ, List.set_cons_zero, O_mv, yg, ye, List.map_cons, List.map_nil, fq, zx, zk, List.cons_append, List.nil_append, List.length_cons, List.length_nil, Nat.reduceAdd, Nat.reduceSub, Nat.zero_add, zn, yc, zy, za, xa, z7, zq, zj, zh, zg, List.getElem?_cons_zero, List.getElem?_cons_succ, yj, q0, rm, lens]
    refine zac md.l.length (HoI h u md (env0 md bl) ss) ?_ ?_ _ ⟨H, junk rfl, ⟨w0, p0, zsg ok bl⟩, rfl⟩
    · rintro k st hk' ⟨K, ⟨j, rfl⟩, e, he⟩
      have hd : md.l[k]? = some md.l[k] := List.getElem?_eq_getElem hk'
      obtain ⟨row, b', o, v, K', h4, h3, a1, a2, q1, e', hrow⟩ := zwh hs sp ok.ok e hd
      have h1 : ((k : Int) < (md.l.length : Int)) = True := by simp; omega
      rw [zx5 hd] at he
      cases hh : zx8 u (enAt u (env0 md bl) md.l k) md.l[k]
      · rw [hh] at q1 he
        have rr : Heap.read1 K' ⟨K.length, 3, some 0⟩ = some (str (zvg md.l[k])) := by rw [x8 hrow, h3]
        simp only [ya, zt, xc, ym, zb, zz, yb, zm, zc, zp, zo, zf, ze, zd, List.set_cons_succ, List.set_cons_zero, O_mv, yy, yg, O_un, ye, List.map_cons, List.map_nil, vt, zx, zk, xt, y5, wm, qe, List.length_cons, List.length_nil, Nat.reduceAdd, Nat.zero_add, Bool.not_false, zn, yc, zy, za, y9, wd, yp, xa, z7, zl, yr, z6, xn, xd, yh, zu, zr, Option.map_some, zfz, eq_self, zdj, decide_true, h1, a1, a2, h4, q1, rr, yci e'.p]
        rw [he]
        exact ⟨rfl, trivial⟩
      · rw [hh] at q1 he
        simp only [ya, zt, ym, zb, zz, zw, yb, zm, zc, zp, zo, zf, ze, zd, List.set_cons_succ, List.set_cons_zero, O_mv, yy, yg, O_un, ye, List.map_cons, List.map_nil, vt, xt, y5, qf, wm, qe, List.length_cons, List.length_nil, Nat.reduceAdd, Nat.zero_add, Bool.not_true, zn, yc, zy, za, zi, yp, zl, yr, z6, xn, xd, yh, zu, zr, Option.map_some, eq_self, yq, decide_true, h1, a1, a2, h4, q1, xq (k := k) (by omega)]
        have e1 : enAt u (env0 md bl) md.l (k + 1) = doE u (enAt u (env0 md bl) md.l k) md.l[k] := zaf hd _ _
        exact ⟨K', junk rfl, e', by rw [he, e1]; rfl⟩
    · rintro st ⟨K, ⟨j, rfl⟩, e, he⟩
      have h1 : ((md.l.length : Int) < (md.l.length : Int)) = False := by simp
      simp only [ya, zt, vj, xc, zb, zw, yb, zm, zc, zo, zf, ze, zd, List.set_cons_succ, List.set_cons_zero, O_mv, yy, yg, wm, zn, yc, za, yz, yk, zfz, eq_self, xo, decide_false, h1, yci e.p]
      rw [he, List.drop_length]
      exact ⟨rfl, trivial⟩
  obtain ⟨v, h', hq, rfl, rfl⟩ := this
  exact hq
def VaI (h h1 : Heap) (u : U) (md : Md) (env0 : En) (ss : Value) (w : Bys) (k : Nat) (st : St) : Prop := ∃ K, (∃ j : Nat → Value, st = ⟨[j 0, str w, j 2, j 3, j 4, j 5, j 6, j 7, .pointer (some ⟨h.length, 0, some 0⟩), j 9, pt (h.length + 1 + 1), j 11, j 12, j 13, j 14, j 15, j 16, j 17, j 18, j 19, j 20, j 21, ss, .int .i64 (md.l.length : Int), .int .i64 (k : Int), j 25, j 26, j 27, j 28, j 29, j 30, j 31, j 32, j 33, j 34, j 35, j 36, j 37, j 38, j 39, j 40, j 41, j 42, j 43, j 44], K⟩) ∧ HoS h1 u md env0 ss k K
def VaO (h h1 : Heap) (u : U) (md : Md) (env0 : En) (ss : Value) (w : Bys) (st : St) : Prop := ∃ K, (∃ j : Nat → Value, st = ⟨[j 0, str w, j 2, j 3, j 4, j 5, j 6, j 7, .pointer (some ⟨h.length, 0, some 0⟩), j 9, pt (h.length + 1 + 1), j 11, j 12, j 13, j 14, j 15, j 16, j 17, j 18, j 19, j 20, j 21, j 22, j 23, j 24, j 25, j 26, j 27, j 28, j 29, j 30, j 31, j 32, j 33, j 34, j 35, j 36, j 37, j 38, j 39, j 40, j 41, j 42, j 43, j 44], K⟩) ∧ HoS h1 u md env0 ss md.l.length K
def zmt (env : En) (w : Bys) : Value := match vx w env with
  | none => tup [agg (w4 [] false v0), .int .i64 40]
  | some p => tup [agg (w4 w p.1 p.2), .int .i64 0]
theorem yd2 (u : U) (env : En) (l : List Stm) : enAt u env l l.length = envM u env l := by unfold enAt envM; rw [List.take_length]
theorem ydd (h : Heap) {K : Heap} (p : Pre h K) (n : Bys) (b : Bool) (v : Vv) (i : Int) : AM.finish h (tup [agg (w4 n b v), .int .i64 i]) K = h := by
  obtain ⟨L, rfl⟩ := p
  refine fd h L ?_
  have : plain (agg (w4 n b v)) = true := zus n b v
  show ([agg (w4 n b v), Value.int .i64 i].all plain) = true
  rw [List.all_cons, this]; rfl
set_option maxHeartbeats 4000000 in
theorem zq6 {h : Heap} {S : Nat → Prop} {mb : Nat} {md : Md} {u : U} {bl : En} {bs : Value} (M : ModP h S mb md) (ok : MdOk md) (hb : Sl h bs 35 (za6 bl)) (hbl : bl.length < 4611686018427387904) (w : Bys) :
    DF FF qy [pt mb, str w, .int .u32 (u.toNat : Int), bs] h = some (zmt (envM u (env0 md bl) md.l) w, h) := by
  obtain ⟨⟨ks, ss, rows, T, hm, hk, hs, sp, _⟩, _, hlen⟩ := M
  have : ∃ v h', DF FF qy [pt mb, str w, .int .u32 (u.toNat : Int), bs] h = some (v, h') ∧ (v = zmt (envM u (env0 md bl) md.l) w ∧ h' = h) := by
    refine wx ziy ?_
    obtain ⟨h1, hh1⟩ : ∃ h1, h1 = h ++ [AObj.cells (w4 [] false v0) 0 false] := ⟨_, rfl⟩
    have p1 : Pre h h1 := ⟨_, hh1⟩
    have l1 : h1.length = h.length + 1 := by rw [hh1]; simp
    have hm1 := p1.kept _ _ hm
    have hs1 : Sl h1 ss 4 rows := hs.pre p1
    have sp1 : StsP h1 T rows md.l := sp.keep fun b o _ ho => p1.kept b o ho
    obtain ⟨H, q0, w0, p0⟩ := zx0 (u := u) hm1 (hk.pre p1) hlen.2.1 (hb.pre p1) hbl
    have lens : ∀ K, lenO K ss = some (.int .i64 (md.l.length : Int), K) := fun K => by rw [hs.len, (sp.len).1]
    have rm : ∀ j, Heap.read1 H ⟨mb, j, some 0⟩ = ([ks, ss] : List Value)[j]? := fun j => x8 (p0.kept _ _ hm1)
    have z1 : h1[h.length]? = some (.cells (w4 [] false v0) 0 false) := by rw [hh1]; simp
    rw [l1] at q0 w0
    simp only [zdz, ya, zb, yb, zm, zc, zo, zf, ze, zd, List.set_cons_succ, List.set_cons_zero, O_mv, yg, ye, List.map_cons, List.map_nil, fq, zx, zk, List.cons_append, List.nil_append, List.length_cons, List.length_nil, Nat.reduceAdd, Nat.reduceSub, Nat.zero_add, zn, yc, zy, za, yp, xa, z7, zq, zj, zh, zg, List.getElem?_cons_zero, List.getElem?_cons_succ, yj, f6, ← hh1, q0, rm, lens]
    refine bz 0 md.l.length (VaI h h1 u md (env0 md bl) ss w) (VaO h h1 u md (env0 md bl) ss w) ?_ ?_ _ ⟨H, junk rfl, ⟨by rw [l1]; exact w0, p0, zsg ok bl⟩⟩ ?_
    · rintro k st hk' ⟨K, ⟨j, rfl⟩, e⟩
      have hd : md.l[k]? = some md.l[k] := List.getElem?_eq_getElem hk'
      obtain ⟨row, b', o, v, K', h4, h3, a1, a2, q1, e', hrow⟩ := zwh hs1 sp1 ok.ok e hd
      rw [l1] at q1
      have hl : ((k : Int) < (md.l.length : Int)) = True := by simp; omega
      simp only [ya, zt, ym, zb, zz, yb, zm, zc, zp, zo, zf, ze, zd, List.set_cons_succ, List.set_cons_zero, O_mv, yy, yg, ye, List.map_cons, List.map_nil, vt, xt, y5, qf, wm, List.length_cons, List.length_nil, Nat.reduceAdd, Nat.zero_add, zn, yc, zy, za, zi, yp, zl, yr, z6, xn, xd, yh, zu, zr, Option.map_some, eq_self, yq, decide_true, hl, a1, a2, h4, q1, xq (k := k) (by omega)]
      exact ⟨K', junk rfl, e'⟩
    · rintro st ⟨K, ⟨j, rfl⟩, e⟩
      have hl : ((md.l.length : Int) < (md.l.length : Int)) = False := by simp
      simp only [ya, zt, vj, zb, zw, yb, zm, zc, zo, ze, zd, List.set_cons_succ, List.set_cons_zero, yy, yg, wm, zn, yc, za, yz, fi, xo, decide_false, hl, fi]
      exact ⟨K, junk rfl, e⟩
    rintro st ⟨K, ⟨j, rfl⟩, e⟩
    have we := e.w
    rw [yd2, l1] at we
    have pK : Pre h K := p1.trans e.p
    have zK : ∀ L, (K ++ L)[h.length]? = some (.cells (w4 [] false v0) 0 false) := fun L => y6 L (e.p.kept _ _ z1)
    have rq : ∀ L j, Heap.read1 (K ++ L) ⟨h.length + 1 + 1, j, some 0⟩ = ([.int .u32 (u.toNat : Int), .map (some (h.length + 1))] : List Value)[j]? := fun L j => x8 (we.more L).hq
    have rq0 : ∀ j, Heap.read1 K ⟨h.length + 1 + 1, j, some 0⟩ = ([.int .u32 (u.toNat : Int), .map (some (h.length + 1))] : List Value)[j]? := fun j => x8 we.hq
    have lk := zfb K we.hk (agg (w4 [] false v0)) true (w := w) (zsj _ w)
    have hlt : h.length < K.length := zb3 (e.p.kept _ _ z1)
    have wr : ∀ L n b v, Heap.write (K ++ L) ⟨h.length, 0, some 0⟩ (w4 n b v) = some ((K ++ L).set h.length (.cells (w4 n b v) 0 false)) := fun L n b v => zce (zK L) (by rw [jp, jp])
    have rd : ∀ L n b v, Heap.read ((K ++ L).set h.length (.cells (w4 n b v) 0 false)) ⟨h.length, 0, some 0⟩ 35 = some (w4 n b v) := fun L n b v => fp (by simp; omega) (jp _ _ _)
    have pf : ∀ L n b v, Pre h ((K ++ L).set h.length (.cells (w4 n b v) 0 false)) := fun L n b v => (pK.more L).set (Nat.le_refl _) _
    cases hl : vx w (envM u (env0 md bl) md.l) with
    | none =>
      simp only [hl, Option.map_none, zg1, if_true] at lk
      simp only [ya, zt, xc, zb, zz, yb, zm, zc, zp, zo, zf, ze, zd, List.set_cons_succ, List.set_cons_zero, O_mv, yg, O_un, zx, zk, x9, y7, yd, yx, qe, Nat.zero_add, Bool.not_false, zn, yc, za, y9, yk, yp, xa, z7, xj, y8, zl, yr, z6, zq, zj, yh, zu, zr, List.getElem?_cons_zero, List.getElem?_cons_succ, zh8, b4, zag, eq_self, jp, rq0, gf, lk, wr, rd]
      simp only [zmt, hl, ydd _ (pf _ _ _ _)]
      exact ⟨trivial, trivial⟩
    | some p =>
      simp only [hl, Option.map_some, zg1, if_true] at lk
      simp only [ya, zt, xc, ym, zb, zw, yb, zm, zc, zp, zo, zf, ze, zd, List.set_cons_succ, List.set_cons_zero, O_mv, yg, O_un, zx, zk, xt, y5, qe, Nat.zero_add, Bool.not_true, zn, yc, za, yk, yp, xa, z7, xj, y8, zl, yr, z6, zq, zj, xn, xd, yh, zu, zr, Option.map_some, List.getElem?_cons_zero, List.getElem?_cons_succ, zh8, b4, zag, eq_self, jp, rq0, gf, lk, wr, rd]
      simp only [zmt, hl, ydd _ (pf _ _ _ _)]
      exact ⟨trivial, trivial⟩
  obtain ⟨v, h', hq, rfl, rfl⟩ := this
  exact hq
end Go.Proofs.YtljdbheclfaloaaGreatDoor.AM
namespace Go.Proofs.YtljdbheclfaloaaGreatDoor.AM
open Go.RowKit
set_option linter.unusedSimpArgs false
set_option linter.unusedVariables false

def ygh (t : Tok) : Prop := ∃ (r : List UInt8) (k : Nat), zgq r = .no ∧ zfs r = .word t.kind k t.n ∧ t.text = r.take k
def sumT : List Tok → Nat
  | [] => 0
  | t :: m => t.text.length + sumT m
theorem yfu {r : Res} {a m : List Tok} (h : r.pre a = .ok m) : ∃ m', r = .ok m' ∧ m = a ++ m' := by
  cases r with
  | ok m' => cases h; exact ⟨m', rfl, rfl⟩
  | bad c x => cases h
theorem zka : ∀ (n : Nat) (s : List UInt8) (a : Nat) (m : List Tok), s.length ≤ n → pk s a = .ok m → (∀ t ∈ m, ygh t ∧ 1 ≤ t.text.length) ∧ sumT m ≤ s.length
  | 0, s, a, m, hn, h => by
    have : s = [] := List.eq_nil_of_length_eq_zero (by omega)
    subst this
    rw [zla] at h; cases h
    exact ⟨fun t ht => (List.not_mem_nil ht).elim, by simp [sumT]⟩
  | n + 1, s, a, m, hn, h => by
    by_cases hs : s = []
    · subst hs; rw [zla] at h; cases h
      exact ⟨fun t ht => (List.not_mem_nil ht).elim, by simp [sumT]⟩
    · rw [zh1 hs] at h
      cases hk : zgq s with
      | go k =>
        rw [hk] at h
        have hp := zhn hk
        obtain ⟨h1, h2⟩ := zka n _ _ m (by simp; omega) h
        simp only [List.length_drop] at h2
        exact ⟨h1, by omega⟩
      | err => rw [hk] at h; cases h
      | no =>
        rw [hk] at h
        cases hw : zfs s with
        | bad c => rw [hw] at h; cases h
        | word kd k x =>
          rw [hw] at h
          have hp := zfq hw
          obtain ⟨m', h1, rfl⟩ := yfu h
          obtain ⟨h2, h3⟩ := zka n _ _ m' (by simp; omega) h1
          simp only [List.length_drop] at h3
          refine ⟨fun t ht => ?_, ?_⟩
          · rcases List.mem_append.1 ht with ht | ht
            · simp at ht; subst ht
              exact ⟨⟨s, k, hk, hw, rfl⟩, by simp; omega⟩
            · exact h2 t ht
          · simp [sumT]; omega
theorem zlg : ∀ m : List Tok, (∀ t ∈ m, 1 ≤ t.text.length) → m.length ≤ sumT m
  | [], _ => by simp
  | t :: m, h => by
    have := zlg m fun x hx => h x (by simp [hx])
    have := h t (by simp)
    simp [sumT]; omega
/-! Where words stand. -/
end Go.Proofs.YtljdbheclfaloaaGreatDoor.AM
namespace Go.Proofs.YtljdbheclfaloaaGreatDoor.AM
open Go.RowKit
set_option linter.unusedSimpArgs false
set_option linter.unusedVariables false
set_option maxRecDepth 20000

theorem zm2 {e : Nat} : ∀ {k : Nat} {ts r : List Tok} {l : List Stm}, bg e k ts = .ok l r → ∀ rc gs, Stm.lets rc gs ∈ l → gs.length ≤ ts.length
  | 0, ts, r, l, h, rc, gs, hm => by rw [bg] at h; cases h; cases hm
  | k + 1, [], r, l, h, rc, gs, hm => by rw [bg] at h; cases h; cases hm
  | k + 1, t :: ts, r, l, h, rc, gs, hm => by
    rw [bg] at h
    split at h
    · cases h
    · rename_i s r1 hs
      split at h
      · cases h
      · rename_i l2 r2 hl
        cases h
        have q := zft hs
        rcases List.mem_cons.1 hm with hm | hm
        · have := q.2 rc gs hm.symm; simp only [List.length_cons]; omega
        · have := zm2 hl rc gs hm; simp only [List.length_cons]; omega
theorem zns {text : Bys} {names : Kn} {md : Md} (h : zcs text names = .ok md) : MdOk md ∧ text.length ≤ 4096 ∧ md.known = b7 [] names ∧ ∃ ts l, pk text 0 = .ok ts ∧ zmp text.length ts = .ok l [] ∧ chkM (b7 [] names) 0 l = .ok md.l := by
  unfold zcs at h
  split at h
  · cases h
  · rename_i hn
    split at h
    · cases h
    · rename_i ts hs
      split at h
      · cases h
      · rename_i l r hl
        split at h
        · cases h
        · rename_i l' hk
          cases h
          have g := zka text.length text 0 ts (Nat.le_refl _) hs
          have lt := zlg ts fun t ht => (g.1 t ht).2
          have hr : r = [] := by
            have key : ∀ (k : Nat) (ts : List Tok) (l : List Stm) (r : List Tok), ts.length ≤ k → bg text.length k ts = .ok l r → r = [] := by
              intro k
              induction k with
              | zero => intro ts l r hk h; rw [bg] at h; cases h; exact List.eq_nil_of_length_eq_zero (by omega)
              | succ k ih =>
                intro ts l r hk h
                cases ts with
                | nil => rw [bg] at h; cases h; rfl
                | cons t ts =>
                  rw [bg] at h
                  split at h
                  · cases h
                  · rename_i s r1 hs1
                    split at h
                    · cases h
                    · rename_i l2 r2 hl2
                      cases h
                      exact ih _ _ _ (by have := (zft hs1).1; simp at hk; omega) hl2
            exact key _ _ _ _ (Nat.le_refl _) hl
          subst hr
          exact ⟨⟨zff names [] (by simp), zzc hk fun rc gs hm => by have := zm2 hl rc gs hm; omega⟩, by omega, rfl, ts, l, hs, hl, hk⟩
def yb5 : Bys := [108, 101, 116, 32, 116, 32, 61, 32, 114, 32, 59, 32, 114, 32, 97, 99, 121, 99, 108, 105, 99, 32, 116, 32, 97, 115, 32, 103, 111, 111, 100]
def nAble : Kn := [([114], false), ([87], true)]
def mdOf : CR Md → Md
  | .ok m => m
  | .bad _ _ => ⟨[], []⟩
def mAble : Md := mdOf (zcs yb5 nAble)
theorem zne : zcs yb5 nAble = .ok mAble := by kernel_rfl
theorem zr4 : zcs [97, 99, 121, 99, 108, 105, 99, 32, 87] nAble = .bad 41 8 := by kernel_rfl
def r2 (n : Nat) : Nat → U := fun k => if k = 0 then BitVec.ofNat 32 n else 0#32
def zrl (n : Nat) : En := [([114], false, ⟨0#32, r2 n⟩)]
theorem zvj : zgs 3#32 (env0 mAble (zrl 2)) mAble.l = none := by kernel_rfl
theorem zrb : zgs 3#32 (env0 mAble (zrl 1)) mAble.l = some [103, 111, 111, 100] := by kernel_rfl
theorem yfo : (relV fun _ => 0#32).set 0 (.int .u32 2) = relV (r2 2) := by kernel_rfl
theorem yga : (relV fun _ => 0#32).set 0 (.int .u32 1) = relV (r2 1) := by kernel_rfl
theorem zti (w : Bys) (b : Bool) (v : Vv) (r : Nat → U) : wo (w4 w b v) [(3, 32, agg (relV r))] = some (w4 w b ⟨v.s, r⟩) := by
  have e : ∀ (x : Vv), w4 w b x = [str w, .bool b, .int .u32 (x.s.toNat : Int)] ++ relV x.r ++ [] := fun x => by rw [List.append_nil]; rfl
  rw [e, zgj (i := 3) (xr r) rfl (xr _), yx, e]
theorem zx3 (a : Bys) (b : Bool) (v : Vv) : wo (w4 [] false v0) [(0, 35, agg (w4 a b v))] = some (w4 a b v) := by
  have := zlx (jp [] false v0) (jp a b v)
  simpa [bo] using this
theorem zyb (a a' : Bys) (b b' : Bool) (v v' : Vv) : wo (w4 [] false v0 ++ w4 [] false v0) [(0, 35, agg (w4 a b v)), (35, 35, agg (w4 a' b' v'))] = some (w4 a b v ++ w4 a' b' v') := by
  have := zki (jp [] false v0) (jp a b v) (jp a' b' v')
  simpa [bo] using this
set_option maxHeartbeats 4000000 in
theorem yfx {h : Heap} (g : Gl h) : DF FF f0 [] h = some (.bool true, h) := by
  have : ∃ v h', DF FF f0 [] h = some (v, h') ∧ (v = .bool true ∧ h' = h) := by
    refine wx zg8 ?_
    have f1 : wo [str [], Value.bool false, str [], Value.bool false] [(0, 2, agg [str [114], Value.bool false]), (2, 2, agg [str [87], Value.bool true])] = some [str [114], Value.bool false, str [87], Value.bool true] := by rfl
    obtain ⟨H, hH⟩ : ∃ H, H = h ++ [AObj.cells [str [114], Value.bool false, str [87], Value.bool true] 0 false] := ⟨_, rfl⟩
    have sl : Sl H (.slice (some ⟨h.length, 0, some 0⟩) 2 2) 2 (nAble.map wz) := by
      rw [hH]; exact Sl.last (rows := nAble.map wz) (c := 2) h rfl rfl (by intro r hr; simp only [nAble, List.map_cons, List.map_nil, List.mem_cons, List.not_mem_nil, or_false] at hr; rcases hr with rfl | rfl <;> rfl) 0 false
    have p0 : Pre h H := ⟨_, hH⟩
    obtain ⟨v1, h1, q1, r1, p1⟩ := zg4 yb5 nAble _ (g.pre p0) sl (by decide)
    rw [zne] at r1
    obtain ⟨mb, rfl, M⟩ := r1
    obtain ⟨v2, h2, q2, r2', p2⟩ := zg4 [97, 99, 121, 99, 108, 105, 99, 32, 87] nAble _ ((g.pre p0).pre p1) (sl.pre p1) (by decide)
    rw [zr4] at r2'
    obtain ⟨rfl, rfl, _⟩ := r2'
    have ok := (zns zne).1
    have hb : ∀ (L : Heap) (n : Nat), Sl (h2 ++ L ++ [AObj.cells (w4 [114] false ⟨0#32, r2 n⟩) 0 false]) (.slice (some ⟨(h2 ++ L).length, 0, some 0⟩) 1 35) 35 (za6 (zrl n)) := fun L n => Sl.last (rows := [w4 [114] false ⟨0#32, r2 n⟩]) (c := 35) _ (by simp) rfl (by intro r hr; rw [List.mem_singleton] at hr; subst hr; exact jp _ _ _) 0 false
    have w1 := zlu (u := 3#32) (bs := .slice (some ⟨(h2 ++ []).length, 0, some 0⟩) 1 35) (M.keep fun b o _ ho => y6 ([] ++ [AObj.cells (w4 [114] false ⟨0#32, r2 2⟩) 0 false]) ho) ok (by have := hb [] 2; rwa [List.append_assoc] at this) (by simp [zrl] : (zrl _).length < _)
    have w2 := zlu (u := 3#32) (bs := .slice (some ⟨(h2 ++ [AObj.cells (w4 [114] false ⟨0#32, r2 2⟩) 0 false]).length, 0, some 0⟩) 1 35) (M.keep fun b o _ ho => y6 ([AObj.cells (w4 [114] false ⟨0#32, r2 2⟩) 0 false] ++ [AObj.cells (w4 [114] false ⟨0#32, r2 1⟩) 0 false]) ho) ok (by have := hb [AObj.cells (w4 [114] false ⟨0#32, r2 2⟩) 0 false] 1; rwa [List.append_assoc] at this) (by simp [zrl] : (zrl _).length < _)
    rw [zvj] at w1
    rw [zrb] at w2
    obtain ⟨v3, h3, q3, o3, p3⟩ := zq1 (M.keep fun b o _ ho => y6 ([AObj.cells (w4 [114] false ⟨0#32, r2 2⟩) 0 false] ++ [AObj.cells (w4 [114] false ⟨0#32, r2 1⟩) 0 false]) ho)
    obtain ⟨v4, h4, q4, o4, p4⟩ := zuy (M.keep fun b o _ ho => p3.kept b o (y6 ([AObj.cells (w4 [114] false ⟨0#32, r2 2⟩) 0 false] ++ [AObj.cells (w4 [114] false ⟨0#32, r2 1⟩) 0 false]) ho))
    have l3 : ((((zb8 mAble.l).map wRow).length : Nat) : Int) = 1 := by kernel_rfl
    have l4 : ((((zdx mAble.l).map wz).length : Nat) : Int) = 1 := by kernel_rfl
    have l3' := fun K => o3.len K
    have l4' := fun K => o4.len K
    rw [l3] at l3'
    rw [l4] at l4'
    have e3 : ((3#32 : U).toNat : Int) = 3 := by rfl
    simp only [List.append_nil, List.nil_append, List.length_append, List.length_singleton, List.singleton_append, e3, zys] at w1 w2 q3 q4
    unfold yb5 at q1
    simp only [zcd, ya, zt, xc, ym, zb, zw, yb, zm, yi, zc, xx, y4, zo, zf, ze, zd, List.set_cons_succ, List.set_cons_zero, O_mv, y0, xi, yy, yg, O_un, ye, List.map_cons, List.map_nil, fq, vf, x9, w7, y7, yd, z8, xe, xf, yx, wt, bf, Nat.lt_add_one, Nat.zero_lt_succ, k9, zse, qe, List.cons_append, List.nil_append, List.length_cons, List.length_nil, Nat.reduceAdd, Nat.reduceSub, Nat.zero_add, Bool.not_false, zn, yc, za, slc, xj, y8, zh, zg, List.append_assoc, List.length_append, List.append_nil, List.getElem?_cons_zero, List.getElem?_cons_succ, wg, Bool.bne_false, beq_self_eq_true, jw, eq_self, yj, va, Int.reduceBNe, wk, ja, xr, f6, jp, zhd, f1, w7, slc, ← hH, q1, q2, yfo, yga, zti, v0_s, zx3, xm, xp, Int.cast_ofNat_Int, w1, w2, q3, q4, l3', l4']
    have pp : Pre h h4 := (((p0.trans p1).more _).trans p3).trans p4
    obtain ⟨L, rfl⟩ := pp
    exact ⟨trivial, fd h L rfl⟩
  obtain ⟨v, h', q, rfl, rfl⟩ := this
  exact q
end Go.Proofs.YtljdbheclfaloaaGreatDoor.AM
namespace Go.Proofs.YtljdbheclfaloaaGreatDoor.AM
open Go.RowKit
set_option linter.unusedSimpArgs false
set_option linter.unusedVariables false
set_option maxRecDepth 20000

section
variable (r s : Nat → U) (a b u : U)
end
theorem zwz {text : Bys} {names : Kn} {md : Md} {ns : Value} {h : Heap} (hp : zcs text names = .ok md) (g : Gl h) (hns : Sl h ns 2 (names.map wz)) (hnl : names.length ≤ 10000) : ∃ mb h', DF FF za3 [str text, ns] h = some (tup [pt mb, .int .i64 0, .int .i64 0], h') ∧ ModP h' (fun z => h.length ≤ z ∧ z < h'.length) mb md ∧ Pre h h' ∧ MdOk md := by
  obtain ⟨v, h', q, r, p⟩ := zg4 text names ns g hns hnl
  have ok := (zns hp).1
  rw [hp] at r
  obtain ⟨mb, rfl, M⟩ := r
  exact ⟨mb, h', q, M, p, ok⟩
theorem Sl.atK (h : Heap) {L : Heap} {k n c : Nat} {l : List Value} {ver : Nat} {ro : Bool} {rows : List (List Value)} (hk : L[k]? = some (.cells l ver ro)) (hl : l = rows.flatten) (hn : n = rows.length) (hc : ∀ r ∈ rows, r.length = c) : Sl (h ++ L) (.slice (some ⟨h.length + k, 0, some ver⟩) n c) c rows := by
  have hlt := (List.getElem?_eq_some_iff.1 hk).1
  have e : L = L.take k ++ ([.cells l ver ro] ++ L.drop (k + 1)) := by
    rw [List.singleton_append, ← zbv hk, List.take_append_drop]
  have := (Sl.last (rows := rows) (c := c) (h ++ L.take k) hl hn hc ver ro).more (L.drop (k + 1))
  rw [List.append_assoc, List.append_assoc, ← e, List.length_append, List.length_take, Nat.min_eq_left (by omega)] at this
  exact this
theorem ztm {H : Heap} {b ver n : Nat} {l : List Value} {ro : Bool} (hb : H[b]? = some (.cells l ver ro)) (hn : l.length = n) : Heap.read H ⟨b, 0, some ver⟩ n = some l := by
  simp only [Heap.read, hb]
  rw [if_pos ⟨trivial, by omega⟩, List.drop_zero, List.take_of_length_le (by omega)]
end Go.Proofs.YtljdbheclfaloaaGreatDoor.AM
namespace Go.Proofs.YtljdbheclfaloaaGreatDoor.AM
open Go.RowKit
set_option linter.unusedSimpArgs false
set_option linter.unusedVariables false
set_option maxRecDepth 20000

def ych : Bys := [108, 101, 116, 32, 114, 101, 99, 32, 112, 32, 61, 32, 114, 32, 124, 32, 112, 32, 59, 32, 112, 32, 108, 101, 116, 32, 114, 101, 99, 32, 97, 32, 61, 32, 114, 32, 97, 110, 100, 32, 113, 32, 61, 32, 97, 32, 124, 32, 113, 32, 59, 32, 115, 32, 108, 101, 116, 32, 99, 32, 61, 32, 115, 43, 32, 108, 101, 116, 32, 100, 32, 61, 32, 115, 42, 32, 108, 101, 116, 32, 104, 32, 61, 32, 115, 63]
def nLeast : Kn := [([114], false), ([115], false)]
def gP : Gv := ⟨[112], 8, .bin false .or (.name false 12 [114]) (.bin false .seq (.name false 16 [112]) (.name false 20 [112]))⟩
def gA : Gv := ⟨[97], 30, .name false 34 [114]⟩
def gQ : Gv := ⟨[113], 40, .bin false .or (.name false 44 [97]) (.bin false .seq (.name false 48 [113]) (.name false 52 [115]))⟩
def gC : Gv := ⟨[99], 58, .un .plus (.name false 62 [115])⟩
def gD : Gv := ⟨[100], 69, .un .star (.name false 73 [115])⟩
def gH : Gv := ⟨[104], 80, .un .maybe (.name false 84 [115])⟩
def mLeast : Md := ⟨nLeast, [.lets true [gP], .lets true [gA, gQ], .lets false [gC], .lets false [gD], .lets false [gH]]⟩
theorem zj8 : zcs ych nLeast = .ok mLeast := by kernel_rfl
def zkt (r s : Nat → U) : En := [([114], false, ⟨0#32, r⟩), ([115], false, ⟨0#32, s⟩)]
def zld (r s : Nat → U) (u : U) : En := envM u (env0 mLeast (zkt r s)) mLeast.l
theorem zzd {u : U} {kn : Kn} {env : En} {gs : List Gv} (ok : zpi kn (.lets true gs)) (e : EnI kn env) : ∀ g ∈ gs, ∃ b v, vx g.name (doE u env (.lets true gs)) = some (b, v) ∧ leR (evE u (doE u env (.lets true gs)) g.e).r v.r ∧ leR v.r (evE u (doE u env (.lets true gs)) g.e).r := by
  obtain ⟨_, G, hf, hn⟩ := ok
  have I0 := zkx (u := u) e hf
  exact zzs _ _ (zn3 G _ _ I0 (by unfold recK; omega))
theorem zsw {u : U} {env : En} {gs : List Gv} (I : En → Prop) (h0 : I env) (hz : ∀ env g, g ∈ gs → I env → I (setE g.name false v0 env)) (hs : ∀ env g, g ∈ gs → I env → I (setE g.name g.e.set (evE u env g.e) env)) : I (doE u env (.lets true gs)) :=
  ztw I hs _ _ (zvr I hz _ h0)
theorem zck {u : U} {env : En} {gs : List Gv} {w : Bys} (hw : ∀ g ∈ gs, w ≠ g.name) : vx w (doE u env (.lets true gs)) = vx w env := by
  refine zsw (fun en => vx w en = vx w env) rfl (fun en g hg h => ?_) (fun en g hg h => ?_)
  · rw [xh, if_neg (by simpa using hw g hg)]; exact h
  · rw [xh, if_neg (by simpa using hw g hg)]; exact h
section
variable (r s : Nat → U) (u : U)
def eL0 : En := env0 mLeast (zkt r s)
def eL1 : En := doE u (eL0 r s) (.lets true [gP])
def eL2 : En := doE u (eL1 r s u) (.lets true [gA, gQ])
theorem ye1 : EnI nLeast (eL0 r s) ∧ zpi nLeast (.lets true [gP]) ∧ EnI (nLeast ++ (Stm.lets true [gP]).given) (eL1 r s u) ∧ zpi (nLeast ++ (Stm.lets true [gP]).given) (.lets true [gA, gQ]) := by
  have ok := (zns zj8).1
  have o := ok.ok
  have e0 := zsg ok (zkt r s)
  exact ⟨e0, o.1, ycl o.1 e0, o.2.1⟩
theorem yf8 : vx [114] (eL0 r s) = some (false, ⟨0#32, r⟩) := by kernel_rfl
theorem ygk : vx [115] (eL0 r s) = some (false, ⟨0#32, s⟩) := by kernel_rfl
theorem yea : vx [114] (eL1 r s u) = some (false, ⟨0#32, r⟩) := (zck (by intro g hg; rw [List.mem_singleton] at hg; subst hg; decide)).trans (yf8 r s)
theorem yfm : vx [115] (eL1 r s u) = some (false, ⟨0#32, s⟩) := (zck (by intro g hg; rw [List.mem_singleton] at hg; subst hg; decide)).trans (ygk r s)
theorem zxe {w : Bys} (h1 : w ≠ gA.name) (h2 : w ≠ gQ.name) : ∀ g ∈ [gA, gQ], w ≠ g.name := by
  intro g hg
  rcases List.mem_cons.1 hg with rfl | hg
  · exact h1
  · rw [List.mem_singleton] at hg; subst hg; exact h2
theorem ygi : vx [114] (eL2 r s u) = some (false, ⟨0#32, r⟩) := (zck (zxe (by decide) (by decide))).trans (yea r s u)
theorem yb8 : vx [115] (eL2 r s u) = some (false, ⟨0#32, s⟩) := (zck (zxe (by decide) (by decide))).trans (yfm r s u)
theorem ydq : ∃ v, vx [112] (eL2 r s u) = some (false, v) ∧ zf4 v.r (zbp r) = true := by
  have hp : vx [112] (eL2 r s u) = vx [112] (eL1 r s u) := zck (zxe (by decide) (by decide))
  rw [hp]
  obtain ⟨e0, o1, e1, o2⟩ := ye1 r s u
  obtain ⟨b, v, hv, h1, h2⟩ := zzd (u := u) o1 e0 gP (by simp)
  -- not above
  have up : ∃ v, vx [112] (eL1 r s u) = some (false, v) ∧ leR v.r (zbp r) := by
    have key := zsw (u := u) (env := eL0 r s) (gs := [gP]) (fun en => vx [114] en = some (false, ⟨0#32, r⟩) ∧ ∀ v, vx [112] en = some v → v.1 = false ∧ leR v.2.r (zbp r))
      ⟨yf8 r s, fun v hv => by rw [show vx [112] (eL0 r s) = none by kernel_rfl] at hv; cases hv⟩
      (fun en g hg h => by
        rw [List.mem_singleton] at hg; subst hg
        refine ⟨by rw [xh, if_neg (by decide)]; exact h.1, fun v hv => ?_⟩
        rw [xh, if_pos (by decide)] at hv
        cases hv; exact ⟨rfl, zef _⟩)
      (fun en g hg h => by
        rw [List.mem_singleton] at hg; subst hg
        refine ⟨by rw [xh, if_neg (by decide)]; exact h.1, fun v hv => ?_⟩
        rw [xh, if_pos (by decide)] at hv
        cases hv
        refine ⟨rfl, ?_⟩
        simp only [gP, evE, evB, h.1, Option.map_some, Option.getD_some]
        have hq : leR (((vx [112] en).map (·.2)).getD v0).r (zbp r) := by
          cases hl : vx [112] en with
          | none => exact zef _
          | some p => exact (h.2 p hl).2
        intro i j hi hj hb
        rw [zbi] at hb
        obtain ⟨f, hf, hb⟩ := hb
        simp only [List.mem_cons, List.not_mem_nil, or_false] at hf
        rcases hf with rfl | rfl
        · exact zn6 _ hb
        · obtain ⟨e, he, h3, h4⟩ := (zgi _ _ hi j).1 hb
          exact ziq r he (hq i e hi he h3) (hq e j he hj h4))
    exact ⟨v, by rw [show vx [112] (eL1 r s u) = _ from hv]; obtain ⟨hb, _⟩ := key.2 _ hv; exact congrArg some (Prod.ext hb rfl), (key.2 _ hv).2⟩
  obtain ⟨v', hv', hle⟩ := up
  rw [show vx [112] (eL1 r s u) = some (b, v) from hv] at hv'
  cases hv'
  refine ⟨v, hv, ztt hle ?_⟩
  -- closed
  have e : (evE u (eL1 r s u) gP.e).r = ft [r, seqK [v.r, v.r]] := by
    simp only [gP, evE, evB, yea, show vx [112] (eL1 r s u) = some (false, v) from hv, Option.map_some, Option.getD_some]
  have h1' : leR (ft [r, seqK [v.r, v.r]]) v.r := by rw [← e]; exact h1
  intro i j hi hj hb
  refine ziz r (fun i j => i < 32 → j < 32 → Bt v.r i j) (fun i j x hi hj => h1' i j hi hj ((zbi _ _ _).2 ⟨r, by simp, x⟩)) (fun i m j hm x y hi hj => h1' i j hi hj ((zbi _ _ _).2 ⟨seqK [v.r, v.r], by simp, (zgi _ _ hi j).2 ⟨m, hm, x hi hm, y hm hj⟩⟩)) hb hi hj
end
end Go.Proofs.YtljdbheclfaloaaGreatDoor.AM
namespace Go.Proofs.YtljdbheclfaloaaGreatDoor.AM
open Go.RowKit
set_option linter.unusedSimpArgs false
set_option linter.unusedVariables false
set_option maxRecDepth 20000

section
variable (r s : Nat → U) (u : U)
def zk1 : Nat → U := ft [r, seqK [r, zbp s]]
theorem zle {i : Nat} (hi : i < 32) (j : Nat) : Bt (zk1 r s) i j ↔ Bt r i j ∨ ∃ e, e < 32 ∧ Bt r i e ∧ Bt (zbp s) e j := by
  unfold zk1
  rw [zbi]
  simp only [List.mem_cons, List.not_mem_nil, or_false, exists_eq_or_imp, exists_eq_left, zgi _ _ hi]
theorem ydy : ∃ v, vx [113] (eL2 r s u) = some (false, v) ∧ zf4 v.r (zk1 r s) = true := by
  obtain ⟨e0, o1, e1, o2⟩ := ye1 r s u
  obtain ⟨bA, A, hA, hA1, hA2⟩ := zzd (u := u) o2 e1 gA (by simp)
  obtain ⟨b, Q, hQ, hQ1, hQ2⟩ := zzd (u := u) o2 e1 gQ (by simp)
  have nA : vx [97] (eL1 r s u) = none := (zck (by intro g hg; rw [List.mem_singleton] at hg; subst hg; decide)).trans (show vx [97] (eL0 r s) = none by kernel_rfl)
  have nQ : vx [113] (eL1 r s u) = none := (zck (by intro g hg; rw [List.mem_singleton] at hg; subst hg; decide)).trans (show vx [113] (eL0 r s) = none by kernel_rfl)
  have key := zsw (u := u) (env := eL1 r s u) (gs := [gA, gQ]) (fun en => vx [114] en = some (false, ⟨0#32, r⟩) ∧ vx [115] en = some (false, ⟨0#32, s⟩) ∧ (∀ v, vx [97] en = some v → leR v.2.r r) ∧ ∀ v, vx [113] en = some v → v.1 = false ∧ leR v.2.r (zk1 r s))
      ⟨yea r s u, yfm r s u, fun v hv => (by rw [nA] at hv; cases hv), fun v hv => by rw [nQ] at hv; cases hv⟩
      (fun en g hg h => by
        obtain ⟨h1, h2, h3, h4⟩ := h
        rcases List.mem_cons.1 hg with rfl | hg
        · refine ⟨by rw [xh, if_neg (by decide)]; exact h1, by rw [xh, if_neg (by decide)]; exact h2, fun v hv => ?_, fun v hv => ?_⟩
          · rw [xh, if_pos (by decide)] at hv; cases hv; exact zef _
          · rw [xh, if_neg (by decide)] at hv; exact h4 v hv
        · rw [List.mem_singleton] at hg; subst hg
          refine ⟨by rw [xh, if_neg (by decide)]; exact h1, by rw [xh, if_neg (by decide)]; exact h2, fun v hv => ?_, fun v hv => ?_⟩
          · rw [xh, if_neg (by decide)] at hv; exact h3 v hv
          · rw [xh, if_pos (by decide)] at hv; cases hv; exact ⟨rfl, zef _⟩)
      (fun en g hg h => by
        obtain ⟨h1, h2, h3, h4⟩ := h
        rcases List.mem_cons.1 hg with rfl | hg
        · refine ⟨by rw [xh, if_neg (by decide)]; exact h1, by rw [xh, if_neg (by decide)]; exact h2, fun v hv => ?_, fun v hv => ?_⟩
          · rw [xh, if_pos (by decide)] at hv; cases hv
            simp only [gA, evE, h1, Option.map_some, Option.getD_some]
            exact leR.refl _
          · rw [xh, if_neg (by decide)] at hv; exact h4 v hv
        · rw [List.mem_singleton] at hg; subst hg
          refine ⟨by rw [xh, if_neg (by decide)]; exact h1, by rw [xh, if_neg (by decide)]; exact h2, fun v hv => ?_, fun v hv => ?_⟩
          · rw [xh, if_neg (by decide)] at hv; exact h3 v hv
          · rw [xh, if_pos (by decide)] at hv
            cases hv
            refine ⟨rfl, ?_⟩
            simp only [gQ, evE, evB, h2, Option.map_some, Option.getD_some]
            have qa : leR (((vx [97] en).map (·.2)).getD v0).r r := by
              cases hl : vx [97] en with
              | none => exact zef _
              | some p => exact h3 p hl
            have qq : leR (((vx [113] en).map (·.2)).getD v0).r (zk1 r s) := by
              cases hl : vx [113] en with
              | none => exact zef _
              | some p => exact (h4 p hl).2
            intro i j hi hj hb
            rw [zbi] at hb
            rw [zle r s hi]
            obtain ⟨f, hf, hb⟩ := hb
            simp only [List.mem_cons, List.not_mem_nil, or_false] at hf
            rcases hf with rfl | rfl
            · exact .inl (qa i j hi hj hb)
            · obtain ⟨e, he, x1, x2⟩ := (zgi _ _ hi j).1 hb
              have y := qq i e hi he x1
              rw [zle r s hi] at y
              rcases y with y | ⟨m, hm, y1, y2⟩
              · exact .inr ⟨e, he, y, zn6 s x2⟩
              · exact .inr ⟨m, hm, y1, ziq s he y2 (zn6 s x2)⟩)
  obtain ⟨k1, k2, k3, k4⟩ := key
  obtain ⟨hb, hle⟩ := k4 _ hQ
  have hb' : b = false := hb
  subst hb'
  refine ⟨Q, hQ, ztt hle ?_⟩
  have eA : (evE u (eL2 r s u) gA.e).r = r := by simp only [gA, evE, ygi, Option.map_some, Option.getD_some]
  have eQ : (evE u (eL2 r s u) gQ.e).r = ft [A.r, seqK [Q.r, s]] := by
    simp only [gQ, evE, evB, yb8, show vx [97] (eL2 r s u) = some (bA, A) from hA, show vx [113] (eL2 r s u) = some (false, Q) from hQ, Option.map_some, Option.getD_some]
  have lA : leR r A.r := by rw [← eA]; exact hA1
  have lQ : leR (ft [A.r, seqK [Q.r, s]]) Q.r := by rw [← eQ]; exact hQ1
  have rQ : leR r Q.r := lA.trans fun i j hi hj x => lQ i j hi hj ((zbi _ _ _).2 ⟨A.r, by simp, x⟩)
  have sQ : ∀ i e j, i < 32 → e < 32 → j < 32 → Bt Q.r i e → Bt s e j → Bt Q.r i j := fun i e j hi he hj x y => lQ i j hi hj ((zbi _ _ _).2 ⟨seqK [Q.r, s], by simp, (zgi _ _ hi j).2 ⟨e, he, x, y⟩⟩)
  intro i j hi hj hb
  rw [zle r s hi] at hb
  rcases hb with hb | ⟨e, he, h1, h2⟩
  · exact rQ i j hi hj hb
  · have := ziz s (fun e j => e < 32 → j < 32 → ∀ i, i < 32 → Bt Q.r i e → Bt Q.r i j) (fun e j x he hj i hi y => sQ i e j hi he hj y x) (fun a m c hm x y ha hc i hi z => y hm hc i hi (x ha hm i hi z)) h2
    exact this he hj i hi (rQ i e hi he h1)
theorem zfy : zld r s u = setE [104] false (evE u (setE [100] false (evE u (setE [99] false (evE u (eL2 r s u) gC.e) (eL2 r s u)) gD.e) (setE [99] false (evE u (eL2 r s u) gC.e) (eL2 r s u))) gH.e) (setE [100] false (evE u (setE [99] false (evE u (eL2 r s u) gC.e) (eL2 r s u)) gD.e) (setE [99] false (evE u (eL2 r s u) gC.e) (eL2 r s u))) := rfl
theorem yak : ∃ v, vx [112] (zld r s u) = some (false, v) ∧ zf4 v.r (zbp r) = true := by
  rw [zfy, xh, if_neg (by decide), xh, if_neg (by decide), xh, if_neg (by decide)]
  exact ydq r s u
theorem zz5 : ∃ v, vx [113] (zld r s u) = some (false, v) ∧ zf4 v.r (zk1 r s) = true := by
  rw [zfy, xh, if_neg (by decide), xh, if_neg (by decide), xh, if_neg (by decide)]
  exact ydy r s u
theorem ya3 : ∃ v, vx [99] (zld r s u) = some (false, v) ∧ v.r = zbp s := by
  rw [zfy, xh, if_neg (by decide), xh, if_neg (by decide), xh, if_pos (by decide)]
  exact ⟨_, rfl, by simp only [gC, evE, evU, yb8, Option.map_some, Option.getD_some]⟩
theorem yau : ∃ v, vx [100] (zld r s u) = some (false, v) ∧ v.r = ft [zbp s, idR u] := by
  rw [zfy, xh, if_neg (by decide), xh, if_pos (by decide)]
  refine ⟨_, rfl, ?_⟩
  simp only [gD, evE, evU]
  rw [xh, if_neg (by decide), yb8]
  rfl
theorem yaj : ∃ v, vx [104] (zld r s u) = some (false, v) ∧ v.r = ft [s, idR u] := by
  rw [zfy, xh, if_pos (by decide)]
  refine ⟨_, rfl, ?_⟩
  simp only [gH, evE, evU]
  rw [xh, if_neg (by decide), xh, if_neg (by decide), yb8]
  rfl
end
end Go.Proofs.YtljdbheclfaloaaGreatDoor.AM
namespace Go.Proofs.YtljdbheclfaloaaGreatDoor.AM
open Go.RowKit
set_option linter.unusedSimpArgs false
set_option linter.unusedVariables false
set_option maxRecDepth 20000

theorem yes : Value.string zpq = str ych := by kernel_rfl
set_option maxHeartbeats 16000000 in
theorem zql (r s : Nat → U) (u : U) {h : Heap} (g : Gl h) : ∃ v h', DF FF fy [agg (relV r), agg (relV s), .int .u32 (u.toNat : Int)] h = some (v, h') ∧ v = .bool true := by
  refine wx zez ?_
  have f1 : wo [str [], Value.bool false, str [], Value.bool false] [(0, 2, agg [str [114], Value.bool false]), (2, 2, agg [str [115], Value.bool false])] = some [str [114], Value.bool false, str [115], Value.bool false] := by rfl
  obtain ⟨L0, hL0⟩ : ∃ L0, L0 = [AObj.cells (relV r) 0 false, AObj.cells (relV s) 0 false, AObj.cells [str [114], Value.bool false, str [115], Value.bool false] 0 false] := ⟨_, rfl⟩
  have s2 : Sl (h ++ L0) (.slice (some ⟨h.length + 2, 0, some 0⟩) 2 2) 2 (nLeast.map wz) := Sl.atK h (k := 2) (by rw [hL0]; rfl) rfl rfl (by intro r hr; simp only [nLeast, List.map_cons, List.map_nil, List.mem_cons, List.not_mem_nil, or_false] at hr; rcases hr with rfl | rfl <;> rfl)
  obtain ⟨mb, h1, q1, M, p1, ok⟩ := zwz zj8 (g.more L0) s2 (by decide)
  have x5 : (h ++ L0)[h.length]? = some (AObj.cells (relV r) 0 false) := by rw [hL0]; simp
  have x6 : (h ++ L0)[h.length + 1]? = some (AObj.cells (relV s) 0 false) := by rw [hL0]; simp
  have r5 : ∀ L, Heap.read (h1 ++ L) ⟨h.length, 0, some 0⟩ 32 = some (relV r) := fun L => ztm (y6 L (p1.kept _ _ x5)) (xr _)
  have r6 : ∀ L, Heap.read (h1 ++ L) ⟨h.length + 1, 0, some 0⟩ 32 = some (relV s) := fun L => ztm (y6 L (p1.kept _ _ x6)) (xr _)
  have r50 : Heap.read h1 ⟨h.length, 0, some 0⟩ 32 = some (relV r) := ztm (p1.kept _ _ x5) (xr _)
  have r60 : Heap.read h1 ⟨h.length + 1, 0, some 0⟩ 32 = some (relV s) := ztm (p1.kept _ _ x6) (xr _)
  have val : ∀ (w : Bys) (L : Heap), DF FF qy [pt mb, str w, .int .u32 (u.toNat : Int), .slice (some ⟨h1.length, 0, some 0⟩) 2 35] (h1 ++ (AObj.cells (w4 [114] false ⟨0#32, r⟩ ++ w4 [115] false ⟨0#32, s⟩) 0 false :: L)) = some (zmt (zld r s u) w, h1 ++ (AObj.cells (w4 [114] false ⟨0#32, r⟩ ++ w4 [115] false ⟨0#32, s⟩) 0 false :: L)) := fun w L =>
    zq6 (u := u) (bl := zkt r s) (M.keep fun b o _ ho => y6 _ ho) ok (Sl.atK h1 (k := 0) rfl (by simp [za6, zkt]) rfl (by intro r hr; simp only [za6, zkt, List.map_cons, List.map_nil, List.mem_cons, List.not_mem_nil, or_false] at hr; rcases hr with rfl | rfl <;> exact jp _ _ _)) (by simp [zkt]) w
  obtain ⟨vp, hp, ep⟩ := yak r s u
  obtain ⟨vq, hq, eq⟩ := zz5 r s u
  obtain ⟨vc, hc, ec⟩ := ya3 r s u
  obtain ⟨vd, hd, ed⟩ := yau r s u
  obtain ⟨vh, hh, eh⟩ := yaj r s u
  unfold zk1 at eq
  rw [hL0] at q1
  simp only [zar, ya, zt, xc, ym, zb, zw, yb, zm, yi, zc, zp, xx, zo, zf, ze, zd, List.set_cons_succ, List.set_cons_zero, O_mv, y0, xi, yy, yg, O_un, ye, List.map_cons, List.map_nil, xt, y5, vf, x9, w7, y7, yd, z8, xe, xf, yx, Nat.zero_lt_succ, zse, qe, List.cons_append, List.nil_append, List.length_cons, List.length_nil, Nat.reduceAdd, Nat.reduceSub, Nat.zero_add, Bool.not_true, zn, yc, za, slc, yp, w6, xa, z7, xj, y8, zl, yr, z6, qp, jb, yh, w8, ve, vk, zr, zh, zg, List.append_assoc, List.length_append, List.append_nil, Option.map_some, List.getElem?_cons_zero, List.getElem?_cons_succ, wg, Bool.bne_false, eq_self, yf, zs, zsf, zl1, zof, yj, Int.reduceBNe, wk, zfn, ja, xr, f6, jp, zhd, ya4, zti, zyb, v0_s, f1, w7, slc, yfx (g.more _), yes, q1, r5, r6, r50, r60, val, zmt, hp, hq, hc, hd, hh, ec, ed, eh, ydg, zgl, zmi, zlt, yaw, yf4, ep, eq, zvx]
end Go.Proofs.YtljdbheclfaloaaGreatDoor.AM
namespace Go.Proofs.YtljdbheclfaloaaGreatDoor.AM
set_option linter.unusedSimpArgs false
open Go.RowKit
set_option linter.unusedVariables false

theorem Gl.of {h : Heap} {m : Int} {u : TypeId} (hg : ∀ (i : Nat) (l : List Value), ([[.int .i64 m], [.iface u (.chan (some 0))]] : List (List Value))[i]? = some l → h[i]? = some (AObj.cells l 0 true)) : Gl h :=
  ⟨⟨m, hg 0 _ rfl⟩, _, hg 1 _ rfl, rfl⟩
theorem catLeast_law {m : Int} {t : TypeId} (h : Heap) (us : List Value) (hg : ∀ (i : Nat) (l : List Value), ([[.int .i64 m], [.iface t (.chan (some 0))]] : List (List Value))[i]? = some l → h[i]? = some (AObj.cells l 0 true)) (ht : zoz h [(true, (List.replicate 32 (.int .u32))), (true, (List.replicate 32 (.int .u32))), (false, [(.int .u32)])] us) : ∃ h', DF FF fy us h = some (.bool true, h') := by
  match us, ht with
  | [u1, u2, u3], ht =>
    obtain ⟨r, rfl⟩ := zpv ht.1
    obtain ⟨s, rfl⟩ := zpv ht.2.1
    obtain ⟨u, rfl⟩ := zwk ht.2.2.1
    obtain ⟨v, h', e, rfl⟩ := zql r s u (Gl.of hg)
    exact ⟨h', e⟩
end Go.Proofs.YtljdbheclfaloaaGreatDoor.AM
namespace Go.Proofs.YtljdbheclfaloaaGreatDoor.AM
set_option linter.unusedSimpArgs false
open Go.RowKit
theorem mixed : Tryz.prog.follows .mixedOrders = true := by kernel_rfl
theorem ygq : (Tryz.prog.funcs.all fun f => f.name != "runtime.NumGoroutine") = true := by kernel_rfl
theorem reads : zz7 Tryz.prog GG FF := by
  refine ⟨fun f fn hf => ?_, yb1 (by decide)⟩
  have hf : (if zkq f then none else (Tryz.prog.funcs[f]?).bind (zj0 Tryz.prog GG ((ords.lookup f).getD []))) = some fn := hf
  split at hf
  · cases hf
  obtain ⟨pf, hp, hn⟩ := Option.bind_eq_some_iff.1 hf
  refine ⟨pf, _, hp, hn, ?_⟩
  have := Array.all_eq_true'.1 ygq pf (Array.mem_of_getElem? hp)
  simpa using this
end Go.Proofs.YtljdbheclfaloaaGreatDoor.AM
namespace Go.Proofs.YtljdbheclfaloaaGreatDoor.AM
open Go.RowKit
set_option linter.unusedSimpArgs false
set_option linter.unusedVariables false

theorem zt4 {P : Program} {W : World} : ∀ {laid : List (String × DataW Unit)} {ps : List MemPlace} {n : String} {d : DataW Unit}, DataW.LaidVars P W laid ps → (n, d) ∈ laid →
    ∃ g t cs fuel p, P.globalNamed n = some g ∧ (P.globals[g]?).map (·.type) = some t ∧ W.var? P n = some cs ∧ DataW.trod (fun _ => ()) P W 0 (fun _ => true) false fuel t cs.toList = some (d, p) ∧ ∀ i, i < cs.size → MemPlace.cell g i ∈ ps
  | [], ps, n, d, h, hm => by cases hm
  | (m, e) :: r, ps, n, d, h, hm => by
    obtain ⟨g, t, cs, fuel, p, q, h1, h2, h3, h4, h5, rfl⟩ := h
    rcases List.mem_cons.1 hm with hm | hm
    · cases hm
      refine ⟨g, t, cs, fuel, p, h1, h2, h3, h4, fun i hi => ?_⟩
      simp only [MemPlace.row, List.mem_append, List.mem_map, List.mem_range]
      exact .inl (.inl ⟨i, hi, by simp⟩)
    · obtain ⟨g', t', cs', fuel', p', k1, k2, k3, k4, k5⟩ := zt4 h5 hm
      exact ⟨g', t', cs', fuel', p', k1, k2, k3, k4, fun i hi => List.mem_append_right _ (k5 i hi)⟩
theorem zqg {P : Program} {W : World} {fuel : Nat} {u : TypeId} {cs : List Value} {d : DataW Unit} {p : List MemPlace} (h : DataW.trod (fun _ => ()) P W 0 (fun _ => true) false fuel u cs = some (.ptr d, p)) : ∃ e, P.underlying u = some (.pointer e) := by
  cases fuel with
  | zero => simp [DataW.trod] at h
  | succ fuel =>
    unfold DataW.trod at h
    split at h
    all_goals first
      | (rename_i hu; exact ⟨_, hu⟩)
      | (exfalso; simp at h; done)
      | (exfalso; simp only [Option.map_eq_some_iff] at h; obtain ⟨_, _, h⟩ := h; cases h; done)
      | (exfalso; split at h
         · simp only [Option.map_eq_some_iff, Option.bind_eq_some_iff] at h
           first
             | (obtain ⟨_, _, _, _, h⟩ := h; cases h; done)
             | (obtain ⟨_, _, h⟩ := h; cases h; done)
             | cases h
         · cases h
         done)
      | (exfalso; split at h <;> (first | (cases h; done) | (simp at h; done) | (simp only [Option.map_eq_some_iff] at h; obtain ⟨_, _, h⟩ := h; cases h; done)); done)
      | (exfalso; split at h
         · split at h
           · simp only [Option.bind_eq_some_iff] at h
             obtain ⟨_, _, h⟩ := h
             split at h <;> cases h
           · cases h
         · cases h)
theorem zmb {P : Program} {W : World} {fuel : Nat} {t : TypeId} {ms : Array (String × TypeId)} {cs : List Value} {nm : String} {d : DataW Unit} {p : List MemPlace} (hu : P.underlying t = some (.interface ms)) (h : DataW.trod (fun _ => ()) P W 0 (fun _ => true) false fuel t cs = some (.iface nm (.ptr d), p)) :
    ∃ u v e, cs = [.iface u v] ∧ P.underlying u = some (.pointer e) := by
  cases fuel with
  | zero => simp [DataW.trod] at h
  | succ fuel =>
    unfold DataW.trod at h
    rw [hu] at h
    split at h <;> (first | (rename_i he; cases he; done) | (simp at h; done) | skip)
    · rename_i u v _
      split at h
      · simp at h
      · obtain ⟨y, h1, h2⟩ := Option.map_eq_some_iff.1 h
        obtain ⟨y1, y2⟩ := y
        simp only [Prod.mk.injEq, DataW.iface.injEq] at h2
        obtain ⟨⟨_, rfl⟩, _⟩ := h2
        obtain ⟨e, he⟩ := zqg h1
        exact ⟨u, v, e, rfl, he⟩
      · cases h
theorem sentinel_cell {P : Program} {W : World} {laid : List (String × DataW Unit)} {n nm : String} {d : DataW Unit} {g : Nat} {t : TypeId} {ms : Array (String × TypeId)} (hL : laidMet P laid W) (hm : (n, .iface nm (.ptr d)) ∈ laid) (hg : P.globalNamed n = some g) (ht : (P.globals[g]?).map (·.type) = some t) (hu : P.underlying t = some (.interface ms)) :
    ∃ u q, W.cell? ⟨g, 0, none⟩ = some (.iface u (.pointer q)) := by
  obtain ⟨ps, hv, _, hok⟩ := hL
  obtain ⟨g', t', cs, fuel, p, k1, k2, k3, k4, k5⟩ := zt4 hv hm
  obtain rfl := Option.some.inj (hg.symm.trans k1)
  obtain rfl := Option.some.inj (ht.symm.trans k2)
  obtain ⟨u, v, e, hcs, hp⟩ := zmb hu k4
  have hc := World.var?_cell hg k3 0
  have h0 : cs[0]? = some (.iface u v) := by rw [← Array.getElem?_toList, hcs]; rfl
  rw [h0] at hc
  have hsz : 0 < cs.size := by
    have := congrArg List.length hcs; simp at this; omega
  have := (hok g 0 (k5 0 hsz)).2 u v hc
  obtain ⟨a, rfl⟩ := Go.WideShapes.okWide_pointer hp this
  exact ⟨u, a, hc⟩
variable {H : Type} {enc : TypeId × Value → H}
theorem returns_shaped {a : Assume} {C : Checked} {os : Os} {f : FuncId} {fn : Func} {s : ChangeSpec} {conds : List PathCond} {apart fresh handsOn again : Bool} {X : World → Array Value → Prop}
    (hX : ∀ (w w' : World) (args : Array Value), w.heap = w'.heap → X w args → X w' args)
    (own : ownKnob C.prog.godebug = none) (started : os.Started) (noInit : C.prog.inits.idxOf? f = none) (hfn : C.prog.funcs[f]? = some fn)
    (witness : ∃ (w : World) (tape : Tape) (i : Input), w.os = os ∧ (w.forCall tape i).Shaped C.prog ∧ i.vars = [] ∧ Input.okWide C.prog (w.forCall tape i) .any w.heap.size f i ∧
      ((s.pre enc C.prog fn conds apart (w.forCall tape i).memory i.args ∧ X (w.forCall tape i).memory i.args) ∧ sizedMet enc C.prog fn (OpenSpec.ofChange s) apart (w.forCall tape i).memory i.args) ∧ a.holds C.prog (lone (Frame.enter C.prog f i.args .normal) [] (w.forCall tape i)))
    (contract : ∀ (W : World) (base : Nat) (args : Array Value) (ds gs : List (DataW H)) (before : List MemPlace),
      (∀ (j : Nat) t v, fn.params[j]? = some t → args[j]? = some v → Value.okWide C.prog W .any base t v) →
      DataW.Whole enc C.prog fn.params.toList s.vars apart W args.toList ds gs before →
      (DataW.weightsEach C.prog (fn.params.toList ++ s.plain.varTypes C.prog) (ds ++ gs)).all (· ≤ reachBytes) = true → X W args → W.ShapedOpen C.prog →
      Calls C.prog f args W fun e W' => ∃ v, e = .returned v ∧ s.post enc C.prog fn apart fresh handsOn again W args v W') :
    ReturnsInHanded a C os f .any (fun w args => (s.pre enc C.prog fn conds apart w args ∧ X w args) ∧ sizedMet enc C.prog fn (OpenSpec.ofChange s) apart w args) (s.post enc C.prog fn apart fresh handsOn again) := by
  refine returnsInHanded_of_calls own started noInit witness ?_
  intro w tape i _ hsh _ hok hpre _
  obtain ⟨_, _, _, fn', hfn', _, _, _, _, hval⟩ := hok
  obtain rfl : fn' = fn := Option.some.inj (hfn'.symm.trans hfn)
  obtain ⟨⟨⟨ds, gs, before, hw, hc⟩, hx⟩, hz⟩ := hpre
  refine (contract (w.forCall tape i) w.heap.size i.args ds gs before hval (DataW.Whole.of_heap (w' := w.forCall tape i) (by rfl) hw) (hz.weights hw) (hX _ _ _ (by rfl) hx) hsh).mono fun e W' ⟨v, he, hp⟩ => ?_
  subst he
  exact ChangeSpec.post_blind hp
end Go.Proofs.YtljdbheclfaloaaGreatDoor.AM
