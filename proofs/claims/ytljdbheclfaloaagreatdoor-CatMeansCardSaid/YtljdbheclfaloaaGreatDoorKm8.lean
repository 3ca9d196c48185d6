/-
  The machine, the functions, what they come to: part 8.
  Conditions: as each says.
-/
import Derived.Test.YtljdbheclfaloaaGreatDoorKm7
import Derived.WideShapes
import Derived.LaidMore
import Derived.LaidLaws
import Derived.HandedShaped
import Derived.Shelf.Vars
namespace Go.Proofs.YtljdbheclfaloaaGreatDoor.AM
open Go.RowKit
set_option linter.unusedSimpArgs false
set_option linter.unusedVariables false
set_option maxRecDepth 20000

def vrow (u : U) (env : En) (g : Gv) : List Value := wu (nmE env g.e) (kdE env g.e) (evE u env g.e)
structure VlS (h0 : Heap) (q km : Nat) (u : U) (env : En) (gs : List Gv) (k : Nat) (sv : Value) (K : Heap) : Prop where
  w : Wd K q km u env
  kc : KC km h0 K
  own : Own [] K sv 35 ((gs.take k).map (vrow u env))
  b : ∀ b, blk sv = some b → h0.length ≤ b
theorem zv7 {km : Nat} {h K : Heap} {s : Value} {S : Nat → Prop} {gs : List Gv} {vs : List Value} (hs : Sl h s 3 (List.zipWith qd gs vs)) (G : GsP h S vs gs) (kc : KC km h K) {k : Nat} {g : Gv} (hg : gs[k]? = some g) :
    ∃ b S' b' o v, (∀ H', rowO H' 3 s (.int .i64 (k : Int)) = some (.pointer (some ⟨b', o, some v⟩), H')) ∧ Heap.read K ⟨b', o, some v⟩ 3 = some (qd g (pt b)) ∧ TreeP K S' (pt b) g.e := by
  obtain ⟨x, S', hx, t, _⟩ := G.get k g hg
  obtain ⟨b, _, _, _, _, rfl, _, _⟩ := t.root
  have hk := (List.getElem?_eq_some_iff.1 hg).1
  obtain ⟨b', o, v, a1, a2⟩ := (hs.kc kc).atH (k := k) (by rw [zek G.len]; exact hk)
  refine ⟨b, S', b', o, v, a1, ?_, t.kc kc⟩
  rw [a2]
  have := zxc G.len hg hx
  rw [List.getElem?_eq_getElem (by rw [zek G.len]; exact hk)] at this
  exact this
theorem zub {α β : Type} {l : List α} {k : Nat} {x : α} (h : l[k]? = some x) (f : α → β) : (l.take (k + 1)).map f = (l.take k).map f ++ [f x] := by
  rw [List.take_add_one, h]; simp
theorem zao {α β : Type} {l : List α} {k : Nat} {x : α} (h : l[k]? = some x) (f : β → α → β) (a : β) : (l.take (k + 1)).foldl f a = f ((l.take k).foldl f a) x := by
  rw [List.take_add_one, h, List.foldl_append]; rfl
theorem yek {h0 K : Heap} {q km : Nat} {u : U} {env : En} {gs : List Gv} {k : Nat} {sv : Value} (W0 : Wd h0 q km u env) (e : VlS h0 q km u env gs k sv K) {g : Gv} (hg : gs[k]? = some g) (hl : gs.length ≤ 8192) {b : Nat} {S' : Nat → Prop} (t : TreeP K S' (pt b) g.e) :
    DF FF vw [pt q, pt b] (K ++ [.cells (qd g (pt b)) 0 false]) = some (agg (wu (nmE env g.e) (kdE env g.e) (evE u env g.e)), K ++ [.cells (qd g (pt b)) 0 false]) ∧
    ∃ s' K2, k9 (K ++ [.cells (qd g (pt b)) 0 false, .cells (wu (nmE env g.e) (kdE env g.e) (evE u env g.e)) 0 false]) 35 152 sv (zd4 (K ++ [.cells (qd g (pt b)) 0 false, .cells (wu (nmE env g.e) (kdE env g.e) (evE u env g.e)) 0 false]) 35 (.slice (some ⟨K.length + 1, 0, some 0⟩) 1 35)) = some (s', K2) ∧
      VlS h0 q km u env gs (k + 1) s' K2 := by
  refine ⟨zfu u env g.e _ q km S' (pt b) (e.w.more _) (t.keep fun _ _ _ ho => y7 _ ho), ?_⟩
  have hk := (List.getElem?_eq_some_iff.1 hg).1
  have hlen : ((gs.take k).map (vrow u env)).length = k := by simp; omega
  obtain ⟨s', K2, p1, p2, _, p4, p5, p6⟩ := (e.own.more [.cells (qd g (pt b)) 0 false]).push (⟨_, rfl⟩ : Pre [] (K ++ [.cells (qd g (pt b)) 0 false])) (row := vrow u env g) (bytes := 152) (qe _ _ _) (by rw [hlen]; unfold fp; omega)
  have p1' := p1
  rw [List.append_assoc, List.length_append] at p1'
  have nb : ∀ z o, h0[z]? = some o → blk sv ≠ some z := fun z o ho hz => by have := e.b z hz; have := zcd ho; omega
  refine ⟨s', K2, p1', ⟨p5 _ _ (y7 _ e.w.hq) (nb _ _ W0.hq), p5 _ _ (y7 _ e.w.hk) (nb _ _ W0.hk)⟩, ⟨fun z l n ro ho => p5 _ _ (y7 _ (e.kc.keep _ _ _ _ ho)) (nb _ _ ho), fun z o ho n => p5 _ _ (y7 _ (e.kc.oth _ _ ho n)) (nb _ _ ho), by have := e.kc.le; simp at p4; omega⟩, by rw [zub hg]; exact p2, fun z hz => ?_⟩
  rcases p6 with h | ⟨j, h, h'⟩
  · rw [h] at hz; exact e.b z hz
  · rw [h] at hz; cases hz; have := e.kc.le; simp at h'; omega
def VlI (h h0 : Heap) (q km : Nat) (u : U) (env : En) (gs : List Gv) (s : Value) (k : Nat) (st : St) : Prop := ∃ K sv, (∃ j : Nat → Value, st = ⟨[pt q, j 1, j 2, pt h.length, j 4, sv, j 6, j 7, j 8, j 9, j 10, j 11, j 12, j 13, j 14, j 15, j 16, j 17, j 18, j 19, j 20, s, .int .i64 (gs.length : Int), .int .i64 (k : Int), j 24, j 25, j 26, j 27, j 28, j 29, j 30, j 31, j 32, j 33, j 34, j 35, j 36, j 37, j 38, j 39, j 40, j 41, j 42, j 43, j 44, j 45, j 46, j 47, j 48, j 49, j 50, j 51, j 52, j 53, j 54, j 55, j 56, j 57, j 58, j 59, j 60, j 61, j 62, j 63, j 64, j 65, j 66, j 67, j 68, j 69, j 70, j 71, j 72, j 73, j 74, j 75, j 76, j 77, j 78, j 79, j 80, j 81, j 82, j 83, j 84, j 85, j 86, j 87, j 88, j 89, j 90, j 91, j 92, j 93, j 94, j 95, j 96, j 97, j 98, j 99, j 100, j 101, j 102, j 103, j 104, j 105, j 106, j 107, j 108, j 109, j 110, j 111, j 112, j 113, j 114, j 115, j 116], K⟩) ∧ VlS h0 q km u env gs k sv K
def VlO (h h0 : Heap) (q km : Nat) (u : U) (env : En) (gs : List Gv) (st : St) : Prop := ∃ K sv, (∃ j : Nat → Value, st = ⟨[pt q, j 1, j 2, pt h.length, j 4, sv, j 6, j 7, j 8, j 9, j 10, j 11, j 12, j 13, j 14, j 15, j 16, j 17, j 18, j 19, j 20, j 21, j 22, j 23, j 24, j 25, j 26, j 27, j 28, j 29, j 30, j 31, j 32, j 33, j 34, j 35, j 36, j 37, j 38, j 39, j 40, j 41, j 42, j 43, j 44, j 45, j 46, j 47, j 48, j 49, j 50, j 51, j 52, j 53, j 54, j 55, j 56, j 57, j 58, j 59, j 60, j 61, j 62, j 63, j 64, j 65, j 66, j 67, j 68, j 69, j 70, j 71, j 72, j 73, j 74, j 75, j 76, j 77, j 78, j 79, j 80, j 81, j 82, j 83, j 84, j 85, j 86, j 87, j 88, j 89, j 90, j 91, j 92, j 93, j 94, j 95, j 96, j 97, j 98, j 99, j 100, j 101, j 102, j 103, j 104, j 105, j 106, j 107, j 108, j 109, j 110, j 111, j 112, j 113, j 114, j 115, j 116], K⟩) ∧ VlS h0 q km u env gs gs.length sv K
structure GvS (h0 : Heap) (q km : Nat) (u : U) (env env' : En) (gs : List Gv) (sv : Value) (K : Heap) : Prop where
  w : Wd K q km u env'
  kc : KC km h0 K
  sl : Sl K sv 35 (gs.map (vrow u env))
def gvE (u : U) (env : En) (gs : List Gv) (k : Nat) : En := (gs.take k).foldl (fun en g => setE g.name g.e.set (evE u env g.e) en) env
theorem ybp {h0 K : Heap} {q km : Nat} {u : U} {env : En} {gs : List Gv} {k : Nat} {sv : Value} (e : GvS h0 q km u env (gvE u env gs k) gs sv K) {g : Gv} (hg : gs[k]? = some g) (hkd : kdE env g.e = g.e.set) (b : Nat) :
    ∃ b' o v c K2, (∀ H', rowO H' 35 sv (.int .i64 (k : Int)) = some (.pointer (some ⟨b', o, some v⟩), H')) ∧ Heap.read (K ++ [.cells (qd g (pt b)) 0 false]) ⟨b', o, some v⟩ 35 = some (vrow u env g) ∧
      DF FF jv [pt q, str g.name, agg (vrow u env g)] (K ++ [.cells (qd g (pt b)) 0 false]) = some (.bool c, K2) ∧ GvS h0 q km u env (gvE u env gs (k + 1)) gs sv K2 := by
  have hk := (List.getElem?_eq_some_iff.1 hg).1
  obtain ⟨b', o, v, a1, a2⟩ := (e.sl.kc (KC.more (km := km) K [.cells (qd g (pt b)) 0 false])).atH (k := k) (by simpa using hk)
  obtain ⟨c, K2, q1, w2, k2, _⟩ := zzi (e.w.more [.cells (qd g (pt b)) 0 false]) g.name (nmE env g.e) (kdE env g.e) (evE u env g.e)
  refine ⟨b', o, v, c, K2, a1, ?_, q1, ⟨?_, (e.kc.trans (KC.more _ _)).trans k2, (e.sl.kc (KC.more (km := km) _ _)).kc k2⟩⟩
  · rw [a2, List.getElem_map, (List.getElem?_eq_some_iff.1 hg).2]
  · rw [gvE, zao hg]; rw [hkd] at w2; exact w2
def GvI (h h0 : Heap) (q km : Nat) (u : U) (env : En) (gs : List Gv) (s : Value) (k : Nat) (st : St) : Prop := ∃ K sv, (∃ j : Nat → Value, st = ⟨[pt q, j 1, j 2, j 3, j 4, sv, j 6, j 7, j 8, j 9, j 10, j 11, j 12, j 13, j 14, j 15, j 16, j 17, j 18, j 19, j 20, j 21, j 22, j 23, j 24, j 25, j 26, j 27, j 28, j 29, j 30, j 31, j 32, j 33, j 34, j 35, s, .int .i64 (gs.length : Int), .int .i64 (k : Int), j 39, j 40, j 41, j 42, j 43, j 44, j 45, j 46, j 47, j 48, j 49, j 50, j 51, j 52, j 53, j 54, j 55, j 56, j 57, j 58, j 59, j 60, j 61, j 62, j 63, j 64, j 65, j 66, j 67, j 68, j 69, j 70, j 71, j 72, j 73, j 74, j 75, j 76, j 77, j 78, j 79, j 80, j 81, j 82, j 83, j 84, j 85, j 86, j 87, j 88, j 89, j 90, j 91, j 92, j 93, j 94, j 95, j 96, j 97, j 98, j 99, j 100, j 101, j 102, j 103, j 104, j 105, j 106, j 107, j 108, j 109, j 110, j 111, j 112, j 113, j 114, j 115, j 116], K⟩) ∧ GvS h0 q km u env (gvE u env gs k) gs sv K
def GvO (h h0 : Heap) (q km : Nat) (u : U) (env : En) (gs : List Gv) (st : St) : Prop := ∃ K, (∃ j : Nat → Value, st = ⟨[j 0, j 1, j 2, j 3, j 4, j 5, j 6, j 7, j 8, j 9, j 10, j 11, j 12, j 13, j 14, j 15, j 16, j 17, j 18, j 19, j 20, j 21, j 22, j 23, j 24, j 25, j 26, j 27, j 28, j 29, j 30, j 31, j 32, j 33, j 34, j 35, j 36, j 37, j 38, j 39, j 40, j 41, j 42, j 43, j 44, j 45, j 46, j 47, j 48, j 49, j 50, j 51, j 52, j 53, j 54, j 55, j 56, j 57, j 58, j 59, j 60, j 61, j 62, j 63, j 64, j 65, j 66, j 67, j 68, j 69, j 70, j 71, j 72, j 73, j 74, j 75, j 76, j 77, j 78, j 79, j 80, j 81, j 82, j 83, j 84, j 85, j 86, j 87, j 88, j 89, j 90, j 91, j 92, j 93, j 94, j 95, j 96, j 97, j 98, j 99, j 100, j 101, j 102, j 103, j 104, j 105, j 106, j 107, j 108, j 109, j 110, j 111, j 112, j 113, j 114, j 115, j 116], K⟩) ∧ Wd K q km u (ya7 u gs env) ∧ KC km h0 K
set_option maxHeartbeats 8000000 in
theorem zz3 {h : Heap} {q km : Nat} {u : U} {env : En} {kn : Kn} {S : Nat → Prop} {vs : List Value} {s : Value} {gs : List Gv} (W : Wd h q km u env) (hs : Sl h s 3 (List.zipWith qd gs vs)) (G : GsP h S vs gs) (hl : gs.length ≤ 8192) (kd : KdOk kn env) (ty : ∀ g ∈ gs, Typ kn g.e) :
    ∃ h', DF FF qj [pt q, agg [str wLet, s, nilP, str []]] h = some (.bool true, h') ∧ Wd h' q km u (ya7 u gs env) ∧ KC km h h' := by
  have : ∃ v h', DF FF qj [pt q, agg [str wLet, s, nilP, str []]] h = some (v, h') ∧ (v = .bool true ∧ Wd h' q km u (ya7 u gs env) ∧ KC km h h') := by
    refine wz zbu ?_
    have lens : ∀ K, lenO K s = some (.int .i64 (gs.length : Int), K) := fun K => by rw [hs.len, zek G.len]
    obtain ⟨h0, hh0⟩ : ∃ h0, h0 = h ++ [AObj.cells [str [108, 101, 116], s, nilP, str []] 0 false] := ⟨_, rfl⟩
    have k0 : KC km h h0 := by rw [hh0]; exact KC.more _ _
    have W0 : Wd h0 q km u env := by rw [hh0]; exact W.more _
    have g0 : h0[h.length]? = some (.cells [str [108, 101, 116], s, nilP, str []] 0 false) := by rw [hh0]; simp
    have rg : ∀ K, KC km h0 K → ∀ j, Heap.read1 K ⟨h.length, j, some 0⟩ = ([str [108, 101, 116], s, nilP, str []] : List Value)[j]? := fun K kc j => xz (kc.keep _ _ _ _ g0)
    have rg0 := rg h0 (KC.refl _)
    simp only [kf, ya, zt, zb, zz, yb, zn, zc, zo, zf, ze, zd, List.set_cons_succ, List.set_cons_zero, O_mv, yy, yg, fc, zx, zk, List.cons_append, List.nil_append, List.length_cons, List.length_nil, Nat.reduceAdd, Nat.reduceSub, Nat.zero_add, zm, yc, zy, za, w8, xb, z7, zg, zh, Nat.add_zero, List.getElem?_cons_zero, List.getElem?_cons_succ, beq_self_eq_true, eq_self, yf, zs, yk, va, fy, wLet, yf, ← hh0, rg0, lens]
    refine bu 1 gs.length (VlI h h0 q km u env gs s) (VlO h h0 q km u env gs) ?_ ?_ _ ⟨h0, _, junk rfl, W0, KC.refl _, Own.nil _ _ _, fun b hb => by simp [blk] at hb⟩ ?_
    · rintro k st hk ⟨K, sv, ⟨j, rfl⟩, e⟩
      have hg : gs[k]? = some gs[k] := List.getElem?_eq_getElem hk
      obtain ⟨b, S', b', o, v, a1, a2, t⟩ := zv7 hs G (k0.trans e.kc) hg
      obtain ⟨q1, s', K2, p1, e'⟩ := yek W0 e hg hl t
      have h1 : ((k : Int) < (gs.length : Int)) = True := by simp; omega
      simp only [ya, zt, yo, zb, zz, yb, zn, zc, zp, zo, zf, ze, zd, List.set_cons_succ, List.set_cons_zero, O_mv, yy, yg, ye, List.map_cons, List.map_nil, vg, zx, zk, xr, y4, vd, w6, yd, z8, xe, xg, vz, wi, List.cons_append, List.nil_append, List.length_cons, List.length_nil, Nat.reduceAdd, Nat.zero_add, zm, yc, zy, za, zi, slc, gp, yq, xb, z7, zl, yu, z6, yr, ym, yh, zu, zr, List.append_assoc, List.length_append, List.append_nil, Option.map_some, eq_self, yp, decide_true, qe, h1, a1, a2, ku, ze0, q1, zzd, p1, xp (k := k) (by omega)]
      exact ⟨K2, s', junk rfl, e'⟩
    · rintro st ⟨K, sv, ⟨j, rfl⟩, e⟩
      have h1 : ((gs.length : Int) < (gs.length : Int)) = False := by simp
      simp only [ya, zt, vc, zb, zw, yb, zn, zc, zo, ze, zd, List.set_cons_succ, List.set_cons_zero, yy, yg, wi, zm, yc, za, yz, g7, xm, decide_false, h1, g7]
      exact ⟨K, sv, junk rfl, e⟩
    rintro st ⟨K, sv, ⟨j, rfl⟩, e⟩
    have rgK := rg K e.kc
    simp only [ya, zb, yb, zn, zc, zo, zf, ze, zd, List.set_cons_succ, List.set_cons_zero, O_mv, yg, fc, zx, zk, Nat.zero_add, zm, yc, zy, za, yj, xb, z7, List.getElem?_cons_zero, List.getElem?_cons_succ, rgK, lens]
    refine bu 3 gs.length (GvI h h0 q km u env gs s) (GvO h h0 q km u env gs) ?_ ?_ _ ⟨K, sv, junk rfl, e.w, e.kc, by have := e.own.sl; rwa [List.take_length] at this⟩ ?_
    · rintro k st hk ⟨K, sv, ⟨j, rfl⟩, e⟩
      have hg : gs[k]? = some gs[k] := List.getElem?_eq_getElem hk
      obtain ⟨b, S', b', o, v, a1, a2, t⟩ := zv7 hs G (k0.trans e.kc) hg
      obtain ⟨b2, o2, v2, c, K2, r1, r2, q1, e'⟩ := ybp e hg (zrt kd (ty _ (List.getElem_mem hk))) b
      have h1 : ((k : Int) < (gs.length : Int)) = True := by simp; omega
      simp only [ya, zt, yo, zb, zz, yb, zn, zc, zp, zo, zf, ze, zd, List.set_cons_succ, List.set_cons_zero, O_mv, yy, yg, ye, List.map_cons, List.map_nil, vg, zx, zk, xr, y4, vz, wi, List.length_cons, List.length_nil, Nat.reduceAdd, Nat.zero_add, zm, yc, zy, za, zi, yq, xb, z7, zl, yu, z6, yr, ym, yh, zu, zr, Nat.add_zero, Option.map_some, eq_self, yp, decide_true, h1, a1, a2, ku, zfo, r1, r2, q1, xp (k := k) (by omega)]
      exact ⟨K2, sv, junk rfl, e'⟩
    · rintro st ⟨K, sv, ⟨j, rfl⟩, e⟩
      have h1 : ((gs.length : Int) < (gs.length : Int)) = False := by simp
      simp only [ya, zt, vc, zb, zw, yb, zn, zc, zo, ze, zd, List.set_cons_succ, List.set_cons_zero, yy, yg, wi, zm, yc, za, yz, g7, xm, decide_false, h1, g7]
      have w := e.w
      rw [gvE, List.take_length] at w
      exact ⟨K, junk rfl, w, e.kc⟩
    rintro st ⟨K, ⟨j, rfl⟩, w, k⟩
    simp only [ya, xf, zb, yb, zn, zc, zf, ze, zd, List.set_cons_succ, List.set_cons_zero, O_mv, zm, yc, za, zi, yj, wh, eq_self]
    exact ⟨trivial, W.fin w _, (k0.trans k).fin _⟩
  obtain ⟨v, h', hq, rfl, hw, hk⟩ := this
  exact ⟨h', hq, hw, hk⟩
end Go.Proofs.YtljdbheclfaloaaGreatDoor.AM
namespace Go.Proofs.YtljdbheclfaloaaGreatDoor.AM
open Go.RowKit
set_option linter.unusedSimpArgs false
set_option linter.unusedVariables false
set_option maxRecDepth 20000

def zpl : Stm → List Bys
  | .lets _ _ => []
  | .chk _ _ a => [a]
def zc0 (l : List Stm) : List Bys := l.flatMap zpl
def zds (l : List Stm) : Kn := l.flatMap Stm.given
theorem yc1 {h : Heap} {ss : Value} {rows : List (List Value)} {T : Nat → Prop} {l : List Stm} (hs : Sl h ss 4 rows) (sp : StsP h T rows l) {K : Heap} (p : Pre h K) {k : Nat} {s : Stm} (hk : l[k]? = some s) :
    ∃ row b' o v Tk, row.length = 4 ∧ row[3]? = some (str (zvl s)) ∧ (∀ H', rowO H' 4 ss (.int .i64 (k : Int)) = some (.pointer (some ⟨b', o, some v⟩), H')) ∧ Heap.read K ⟨b', o, some v⟩ 4 = some row ∧ StP h Tk row s := by
  obtain ⟨row, Tk, hr, sk, _⟩ := sp.focus hk
  have hlt := (List.getElem?_eq_some_iff.1 hr).1
  obtain ⟨b', o, v, a1, a2⟩ := (hs.pre p).atH (k := k) hlt
  have hr' : rows[k] = row := (List.getElem?_eq_some_iff.1 hr).2
  rw [hr'] at a2
  refine ⟨row, b', o, v, Tk, hs.2 row (List.mem_of_getElem? hr), ?_, a1, a2, sk⟩
  cases s with
  | lets rc gs => obtain ⟨_, _, _, rfl, _⟩ := sk; rfl
  | chk c x a => obtain ⟨_, rfl, _⟩ := sk; rfl
theorem zc9 {α β : Type} {l : List α} {k : Nat} {x : α} (h : l[k]? = some x) (f : α → List β) : (l.take (k + 1)).flatMap f = (l.take k).flatMap f ++ f x := by
  rw [List.take_add_one, h, List.flatMap_append]; simp
def wRow (w : Bys) : List Value := [str w]
theorem zmo : ∀ (l : List Stm), (zc0 l).length ≤ l.length
  | [] => Nat.le_refl _
  | s :: l => by
    have := zmo l
    unfold zc0 at this ⊢
    rw [List.flatMap_cons, List.length_append]
    have h2 : (zpl s).length ≤ 1 := by cases s <;> simp [zpl]
    rw [List.length_cons]; omega
def CkI (h : Heap) (l : List Stm) (ss : Value) (k : Nat) (st : St) : Prop := ∃ K sv, (∃ j : Nat → Value, st = ⟨[j 0, j 1, j 2, sv, j 4, j 5, j 6, j 7, j 8, ss, .int .i64 (l.length : Int), .int .i64 (k : Int), j 12, j 13, j 14, j 15, j 16, j 17, j 18, j 19, j 20, j 21, j 22, j 23, j 24], K⟩) ∧ Pre h K ∧ Own h K sv 1 ((zc0 (l.take k)).map wRow)
def CkO (h : Heap) (l : List Stm) (st : St) : Prop := ∃ K sv, (∃ j : Nat → Value, st = ⟨[j 0, j 1, j 2, sv, j 4, j 5, j 6, j 7, j 8, j 9, j 10, j 11, j 12, j 13, j 14, j 15, j 16, j 17, j 18, j 19, j 20, j 21, j 22, j 23, j 24], K⟩) ∧ Pre h K ∧ Own h K sv 1 ((zc0 l).map wRow)
set_option maxHeartbeats 4000000 in
theorem zqv {h : Heap} {S : Nat → Prop} {mb : Nat} {md : Md} (M : ModP h S mb md) :
    ∃ v h', DF FF za0 [pt mb] h = some (v, h') ∧ (Own h h' v 1 ((zc0 md.l).map wRow) ∧ Pre h h') := by
  obtain ⟨⟨ks, ss, rows, T, hm, hk, hs, sp, _⟩, _, hlen⟩ := M
  refine wz zia ?_
  have lens : ∀ K, lenO K ss = some (.int .i64 (md.l.length : Int), K) := fun K => by rw [hs.len, (sp.len).1]
  have rm : ∀ j, Heap.read1 h ⟨mb, j, some 0⟩ = ([ks, ss] : List Value)[j]? := fun j => xz hm
  simp only [zdd, ya, zb, yb, zn, zc, zo, zf, ze, zd, List.set_cons_succ, List.set_cons_zero, O_mv, yg, fc, zx, zk, List.cons_append, List.nil_append, List.length_cons, List.length_nil, Nat.reduceSub, Nat.zero_add, zm, yc, zy, za, xb, z7, zq, zj, zg, zh, List.getElem?_cons_zero, List.getElem?_cons_succ, yk, rm, lens]
  refine bu 0 md.l.length (CkI h md.l ss) (CkO h md.l) ?_ ?_ _ ⟨h, _, junk rfl, Pre.refl _, Own.nil _ _ _⟩ ?_
  · rintro k st hk' ⟨K, sv, ⟨j, rfl⟩, p, own⟩
    have hd : md.l[k]? = some md.l[k] := List.getElem?_eq_getElem hk'
    obtain ⟨row, b', o, v, Tk, h4, h3, a1, a2, sk⟩ := yc1 hs sp p hd
    have hl : ((k : Int) < (md.l.length : Int)) = True := by simp; omega
    obtain ⟨s, hss⟩ : ∃ s, s = md.l[k] := ⟨_, rfl⟩
    rw [← hss] at sk hd h3
    cases s with
    | lets rc gs =>
      obtain ⟨s, vs, S', rfl, _⟩ := sk
      simp only [ya, zt, yo, zb, zz, zw, yb, zn, zc, zp, zo, zf, ze, zd, List.set_cons_succ, List.set_cons_zero, O_mv, yy, yg, vg, zx, zk, xr, y4, vz, wi, List.length_cons, List.length_nil, Nat.reduceAdd, Nat.zero_add, Bool.not_true, zm, yc, zy, za, zi, yq, xb, z7, zl, yu, z6, yr, ym, yh, zu, zr, Option.map_some, List.getElem?_cons_zero, List.getElem?_cons_succ, Bool.bne_true, jp, eq_self, yp, decide_true, hl, a1, a2, py, xq, xp (k := k) (by omega)]
      exact ⟨_, sv, junk rfl, p.more _, by unfold zc0; rw [zc9 hd]; simpa [zpl, zc0] using own.more _⟩
    | chk c x a =>
      obtain ⟨v', rfl, t⟩ := sk
      obtain ⟨b, _, _, _, _, rfl, _, _⟩ := t.root
      have hroom : (((zc0 (md.l.take k)).map wRow).length + 1) * 16 ≤ fp := by
        have := zmo (md.l.take k)
        rw [List.length_map]
        have h2 : (md.l.take k).length ≤ k := by simp; omega
        have := hlen.1
        unfold fp; omega
      obtain ⟨s', K2, p1, p2, p3, p4, p5, p6⟩ := (own.more [.cells [str (ckS c), nils, pt b, str a] 0 false]).push (p.more _) (row := wRow a) (bytes := 16) rfl hroom
      rw [List.append_assoc, List.length_append] at p1
      have p1' : k9 (K ++ [AObj.cells [str (ckS c), nils, pt b, str a] 0 false, AObj.cells [str a] 0 false]) 1 16 sv (zd4 (K ++ [AObj.cells [str (ckS c), nils, pt b, str a] 0 false, AObj.cells [str a] 0 false]) 1 (.slice (some ⟨K.length + 1, 0, some 0⟩) 1 1)) = some (s', K2) := p1
      simp only [ya, zt, yo, zb, zz, yb, zn, zc, zp, zo, zf, ze, zd, List.set_cons_succ, List.set_cons_zero, O_mv, yy, yg, vg, zx, zk, xr, y4, vd, w6, yd, z8, xe, xg, yx, Nat.lt_add_one, vz, wi, List.cons_append, List.nil_append, List.length_cons, List.length_nil, Nat.reduceAdd, Nat.zero_add, Bool.not_false, zm, yc, zy, za, zi, slc, gp, yq, xb, z7, zl, yu, z6, yr, ym, yh, zu, zr, List.append_assoc, List.length_append, List.append_nil, Option.map_some, List.getElem?_cons_zero, List.getElem?_cons_succ, Bool.bne_true, jp, eq_self, yp, wn, decide_true, hl, a1, a2, xo, xq, p1', xp (k := k) (by omega)]
      exact ⟨K2, s', junk rfl, p3, by unfold zc0; rw [zc9 hd, List.map_append]; simpa [zpl, zc0] using p2⟩
  · rintro st ⟨K, sv, ⟨j, rfl⟩, p, own⟩
    have hl : ((md.l.length : Int) < (md.l.length : Int)) = False := by simp
    simp only [ya, zt, vc, zb, zw, yb, zn, zc, zo, ze, zd, List.set_cons_succ, List.set_cons_zero, yy, yg, wi, zm, yc, za, yz, g7, xm, decide_false, hl, g7]
    rw [List.take_length] at own
    exact ⟨K, sv, junk rfl, p, own⟩
  rintro st ⟨K, sv, ⟨j, rfl⟩, p, own⟩
  simp only [ya, xf, zb, yb, zn, zc, zo, ze, zd, List.set_cons_succ, List.set_cons_zero, O_mv, zm, yc, za, yj, wh]
  exact own.finish p

/-! What is given. -/
theorem zqt : ∀ (l : List Stm), (∀ rc gs, Stm.lets rc gs ∈ l → gs.length ≤ 8192) → (zds l).length ≤ l.length * 8192
  | [], _ => Nat.le_refl _
  | s :: l, h => by
    have := zqt l fun rc gs hm => h rc gs (by simp [hm])
    unfold zds at this ⊢
    rw [List.flatMap_cons, List.length_append]
    have h2 : s.given.length ≤ 8192 := by
      cases s with
      | lets rc gs => have := h rc gs (by simp); simpa [Stm.given, kq] using this
      | chk k x a => simp [Stm.given]
    rw [List.length_cons]; omega
def LtI (h : Heap) (l : List Stm) (ss : Value) (k : Nat) (st : St) : Prop := ∃ K sv, (∃ j : Nat → Value, st = ⟨[j 0, j 1, j 2, sv, j 4, j 5, j 6, j 7, j 8, j 9, j 10, ss, .int .i64 (l.length : Int), .int .i64 (k : Int), j 14, j 15, j 16, j 17, j 18, j 19, j 20, j 21, j 22, j 23, j 24, j 25, j 26, j 27, j 28, j 29, j 30, j 31, j 32, j 33, j 34, j 35, j 36, j 37], K⟩) ∧ Pre h K ∧ Own h K sv 2 ((zds (l.take k)).map w5)
def LtO (h : Heap) (l : List Stm) (st : St) : Prop := ∃ K sv, (∃ j : Nat → Value, st = ⟨[j 0, j 1, j 2, sv, j 4, j 5, j 6, j 7, j 8, j 9, j 10, j 11, j 12, j 13, j 14, j 15, j 16, j 17, j 18, j 19, j 20, j 21, j 22, j 23, j 24, j 25, j 26, j 27, j 28, j 29, j 30, j 31, j 32, j 33, j 34, j 35, j 36, j 37], K⟩) ∧ Pre h K ∧ Own h K sv 2 ((zds l).map w5)
def LgI (h : Heap) (l : List Stm) (ss : Value) (k : Nat) (gs : List Gv) (s : Value) (i : Nat) (st : St) : Prop := ∃ K sv, (∃ j : Nat → Value, st = ⟨[j 0, j 1, j 2, sv, j 4, j 5, j 6, j 7, j 8, j 9, j 10, ss, .int .i64 (l.length : Int), .int .i64 (k : Int), j 14, j 15, j 16, j 17, s, .int .i64 (gs.length : Int), .int .i64 (i : Int), j 21, j 22, j 23, j 24, j 25, j 26, j 27, j 28, j 29, j 30, j 31, j 32, j 33, j 34, j 35, j 36, j 37], K⟩) ∧ Pre h K ∧ Own h K sv 2 ((zds (l.take k) ++ kq (gs.take i)).map w5)
def LgO (h : Heap) (l : List Stm) (ss : Value) (k : Nat) (gs : List Gv) (st : St) : Prop := ∃ K sv, (∃ j : Nat → Value, st = ⟨[j 0, j 1, j 2, sv, j 4, j 5, j 6, j 7, j 8, j 9, j 10, ss, .int .i64 (l.length : Int), .int .i64 (k : Int), j 14, j 15, j 16, j 17, j 18, j 19, j 20, j 21, j 22, j 23, j 24, j 25, j 26, j 27, j 28, j 29, j 30, j 31, j 32, j 33, j 34, j 35, j 36, j 37], K⟩) ∧ Pre h K ∧ Own h K sv 2 ((zds (l.take k) ++ kq gs).map w5)
theorem zus (d : Bys × Bool) : wo [str [], .bool false] [(0, 2, agg [str d.1, .bool d.2])] = some [str d.1, .bool d.2] := by
  rw [wo, yf]
  simp [splice, yx]
set_option maxHeartbeats 8000000 in
theorem zv3 {h : Heap} {S : Nat → Prop} {mb : Nat} {md : Md} (M : ModP h S mb md) :
    ∃ v h', DF FF zbx [pt mb] h = some (v, h') ∧ (Own h h' v 2 ((zds md.l).map w5) ∧ Pre h h') := by
  obtain ⟨⟨ks, ss, rows, T, hm, hk, hs, sp, _⟩, _, hlen⟩ := M
  refine wz zjv ?_
  have lens : ∀ K, lenO K ss = some (.int .i64 (md.l.length : Int), K) := fun K => by rw [hs.len, (sp.len).1]
  have rm : ∀ j, Heap.read1 h ⟨mb, j, some 0⟩ = ([ks, ss] : List Value)[j]? := fun j => xz hm
  simp only [zfa, ya, zb, yb, zn, zc, zo, zf, ze, zd, List.set_cons_succ, List.set_cons_zero, O_mv, yg, fc, zx, zk, List.cons_append, List.nil_append, List.length_cons, List.length_nil, Nat.reduceSub, Nat.zero_add, zm, yc, zy, za, xb, z7, zq, zj, zg, zh, List.getElem?_cons_zero, List.getElem?_cons_succ, yk, rm, lens]
  refine bu 0 md.l.length (LtI h md.l ss) (LtO h md.l) ?_ ?_ _ ⟨h, _, junk rfl, Pre.refl _, Own.nil _ _ _⟩ ?_
  · rintro k st hk' ⟨K, sv, ⟨j, rfl⟩, p, own⟩
    have hd : md.l[k]? = some md.l[k] := List.getElem?_eq_getElem hk'
    obtain ⟨row, b', o, v, Tk, h4, h3, a1, a2, sk⟩ := yc1 hs sp p hd
    have hl : ((k : Int) < (md.l.length : Int)) = True := by simp; omega
    obtain ⟨s, hss⟩ : ∃ s, s = md.l[k] := ⟨_, rfl⟩
    rw [← hss] at sk hd h3
    have hgl : (zds (md.l.take k)).length ≤ k * 8192 := by
      have := zqt (md.l.take k) fun rc gs hm => hlen.2.2 rc gs (List.mem_of_mem_take hm)
      have h2 : (md.l.take k).length = k := by simp; omega
      rwa [h2] at this
    have hk8 := hlen.1
    cases s with
    | chk c x a =>
      obtain ⟨v', rfl, t⟩ := sk
      simp only [ya, zt, vc, yo, zb, zz, zw, yb, zn, zc, zp, zo, zf, ze, zd, List.set_cons_succ, List.set_cons_zero, O_mv, yy, yg, fc, vg, zx, zk, xr, y4, vz, wi, List.length_cons, List.length_nil, Nat.reduceAdd, Nat.zero_add, zm, yc, zy, za, yz, zi, yj, yq, xb, z7, zl, yu, z6, yr, ym, yh, zu, zr, Option.map_some, List.getElem?_cons_zero, List.getElem?_cons_succ, Int.reduceLT, eq_self, yp, decide_true, decide_false, hl, a1, a2, zer, zfb, xp (k := k) (by omega)]
      exact ⟨_, sv, junk rfl, p.more _, by unfold zds; rw [zc9 hd]; simpa [Stm.given, zds] using own.more _⟩
    | lets rc gs =>
      obtain ⟨s, vs, S', rfl, hsg, G, _⟩ := sk
      have hg8 : gs.length ≤ 8192 := hlen.2.2 rc gs (List.mem_of_getElem? hd)
      have lens2 : ∀ K, lenO K s = some (.int .i64 (gs.length : Int), K) := fun K => by rw [hsg.len, zek G.len]
      simp only [ya, zt, yo, zb, zz, yb, zn, zc, zp, zo, zf, ze, zd, List.set_cons_succ, List.set_cons_zero, O_mv, yy, yg, fc, vg, zx, zk, xr, y4, wi, List.length_cons, List.length_nil, Nat.reduceAdd, Nat.zero_add, zm, yc, zy, za, yq, xb, z7, zl, yu, z6, yr, ym, yh, zu, zr, Option.map_some, List.getElem?_cons_zero, List.getElem?_cons_succ, eq_self, decide_true, hl, a1, a2, lens2]
      refine bu 2 gs.length (LgI h md.l ss k gs s) (LgO h md.l ss k gs) ?_ ?_ _ ⟨_, sv, junk rfl, p.more _, by simpa [kq] using own.more _⟩ ?_
      · rintro i st hi ⟨K, sv, ⟨j, rfl⟩, p, own⟩
        have hg : gs[i]? = some gs[i] := List.getElem?_eq_getElem hi
        obtain ⟨b, S'', b', o, v, a1, a2, t⟩ := zv7 (km := h.length) hsg G ⟨fun b l n ro hb => p.kept b _ hb, fun b o hb _ => p.kept b o hb, p.le⟩ hg
        obtain ⟨b0, op, w0, l0, r0, hb0, _, hbo⟩ := t.root
        have hb0 : b = b0 := by simpa using hb0
        subst hb0
        have rb : ∀ L j, Heap.read1 (K ++ L) ⟨b, j, some 0⟩ = (vh op w0 gs[i].e.pl l0 r0 gs[i].e.set)[j]? := fun L j => xz (y7 L hbo)
        have h1 : ((i : Int) < (gs.length : Int)) = True := by simp; omega
        have hroom : (((zds (md.l.take k) ++ kq (gs.take i)).map w5).length + 1) * 24 ≤ fp := by
          rw [List.length_map, List.length_append]
          have h2 : (kq (gs.take i)).length ≤ i := by simp [kq]; omega
          unfold fp; omega
        obtain ⟨s', K2, p1, p2, p3, p4, p5, p6⟩ := (own.more [.cells (qd gs[i] (pt b)) 0 false]).push (p.more _) (row := w5 (gs[i].name, gs[i].e.set)) (bytes := 24) rfl hroom
        rw [List.append_assoc, List.length_append] at p1
        have p1' : k9 (K ++ [AObj.cells (qd gs[i] (pt b)) 0 false, AObj.cells [str gs[i].name, .bool gs[i].e.set] 0 false]) 2 24 sv (zd4 (K ++ [AObj.cells (qd gs[i] (pt b)) 0 false, AObj.cells [str gs[i].name, .bool gs[i].e.set] 0 false]) 2 (.slice (some ⟨K.length + 1, 0, some 0⟩) 1 2)) = some (s', K2) := p1
        simp only [ya, zt, yo, zb, zz, yb, zn, zc, zp, zo, zf, ze, zd, List.set_cons_succ, List.set_cons_zero, O_mv, yy, yg, vg, zx, zk, xr, y4, vd, wd, w6, y6, yd, z8, xe, xg, yx, fm, Nat.lt_add_one, Nat.zero_lt_succ, vz, wi, List.cons_append, List.nil_append, List.length_cons, List.length_nil, Nat.reduceAdd, Nat.zero_add, zm, yc, zy, za, zi, slc, gp, yq, xb, z7, zl, yu, z6, zq, zj, yr, ym, yh, zu, zr, List.append_assoc, List.length_append, List.append_nil, Nat.add_zero, Option.map_some, eq_self, yp, wn, decide_true, h1, a1, a2, ku, zfo, ze0, rb, zbv, zus (gs[i].name, gs[i].e.set), p1', xp (k := i) (by omega)]
        refine ⟨K2, s', junk rfl, p3, ?_⟩
        have e : kq (gs.take (i + 1)) = kq (gs.take i) ++ [(gs[i].name, gs[i].e.set)] := zub hg _
        rw [e, ← List.append_assoc, List.map_append]
        exact p2
      · rintro st ⟨K, sv, ⟨j, rfl⟩, p, own⟩
        have h1 : ((gs.length : Int) < (gs.length : Int)) = False := by simp
        simp only [ya, zt, vc, zb, zw, yb, zn, zc, zo, ze, zd, List.set_cons_succ, List.set_cons_zero, yy, yg, wi, zm, yc, za, yz, g7, xm, decide_false, h1, g7]
        rw [List.take_length] at own
        exact ⟨K, sv, junk rfl, p, own⟩
      rintro st ⟨K, sv, ⟨j, rfl⟩, p, own⟩
      simp only [ya, zb, yb, zn, zc, zo, zf, ze, zd, List.set_cons_succ, List.set_cons_zero, O_mv, yy, yg, vz, zm, za, zi, yj, yp, xp (k := k) (by omega)]
      exact ⟨K, sv, junk rfl, p, by unfold zds; rw [zc9 hd]; exact own⟩
  · rintro st ⟨K, sv, ⟨j, rfl⟩, p, own⟩
    have hl : ((md.l.length : Int) < (md.l.length : Int)) = False := by simp
    simp only [ya, zt, vc, zb, zw, yb, zn, zc, zo, ze, zd, List.set_cons_succ, List.set_cons_zero, yy, yg, wi, zm, yc, za, yz, g7, xm, decide_false, hl, g7]
    rw [List.take_length] at own
    exact ⟨K, sv, junk rfl, p, own⟩
  rintro st ⟨K, sv, ⟨j, rfl⟩, p, own⟩
  simp only [ya, xf, zb, yb, zn, zc, zo, ze, zd, List.set_cons_succ, List.set_cons_zero, O_mv, zm, yc, za, yj, wh]
  exact own.finish p
end Go.Proofs.YtljdbheclfaloaaGreatDoor.AM
namespace Go.Proofs.YtljdbheclfaloaaGreatDoor.AM
open Go.RowKit
set_option linter.unusedSimpArgs false
set_option linter.unusedVariables false
set_option maxRecDepth 20000

theorem zke {α : Type} {p q : α → Bool} : ∀ {l : List α}, (∀ x ∈ l, p x = true → q x = true) → (l.filter p).length ≤ (l.filter q).length
  | [], _ => Nat.le_refl _
  | x :: l, h => by
    have ih := zke (l := l) fun y hy => h y (by simp [hy])
    have h0 := h x (by simp)
    rw [List.filter_cons, List.filter_cons]
    cases hp : p x
    · cases q x <;> simp <;> omega
    · rw [h0 hp]; simp; exact ih
theorem zpg {α : Type} {p q : α → Bool} : ∀ {l : List α}, (∀ x ∈ l, p x = true → q x = true) → (∃ x ∈ l, q x = true ∧ p x = false) → (l.filter p).length < (l.filter q).length
  | [], _, e => by obtain ⟨x, hx, _⟩ := e; cases hx
  | x :: l, h, e => by
    have hl : ∀ y ∈ l, p y = true → q y = true := fun y hy => h y (by simp [hy])
    have h0 := h x (by simp)
    rw [List.filter_cons, List.filter_cons]
    obtain ⟨y, hy, hq, hp⟩ := e
    rcases List.mem_cons.1 hy with rfl | hy
    · rw [hq, hp]
      have := zke hl
      simp; omega
    · have ih := zpg hl ⟨y, hy, hq, hp⟩
      cases hp : p x
      · cases q x <;> simp <;> omega
      · rw [h0 hp]; simp; exact ih
def cntR (r : Nat → U) : Nat := ((List.range 1024).filter fun k => (r (k / 32)).getLsbD (k % 32)).length
theorem yds (r : Nat → U) : cntR r ≤ 1024 := by
  have := List.length_filter_le (fun k => (r (k / 32)).getLsbD (k % 32)) (List.range 1024)
  rwa [List.length_range] at this
theorem zv8 {a b : Nat → U} (h : leR a b) : cntR a ≤ cntR b := zke fun k hk x => h _ _ (by have := List.mem_range.1 hk; omega) (Nat.mod_lt _ (by decide)) x
theorem ydj {a b : Nat → U} (h : leR a b) (n : zjw a b = false) : cntR a < cntR b := by
  refine zpg (fun k hk x => h _ _ (by have := List.mem_range.1 hk; omega) (Nat.mod_lt _ (by decide)) x) ?_
  apply Classical.byContradiction
  intro hn
  have : zjw a b = true := zwx fun i j hi hj => ⟨h i j hi hj, fun hb => by
    apply Classical.byContradiction
    intro ha
    refine hn ⟨i * 32 + j, List.mem_range.2 (by omega), ?_, ?_⟩
    · rw [show (i * 32 + j) / 32 = i by omega, show (i * 32 + j) % 32 = j by omega]; exact hb
    · rw [show (i * 32 + j) / 32 = i by omega, show (i * 32 + j) % 32 = j by omega]; simpa using ha⟩
  rw [this] at n; cases n
def cntE (env : En) (w : Bys) : Nat := match jl w env with
  | some (_, v) => cntR v.r
  | none => 0
theorem ydl (env : En) (w : Bys) : cntE env w ≤ 1024 := by
  unfold cntE; split
  · exact yds _
  · exact Nat.zero_le _
theorem zps {rc : List Bys} {env env' : En} (L : LeE rc env env') (w : Bys) : cntE env w ≤ cntE env' w := by
  unfold cntE
  rcases L w with ⟨h1, h2⟩ | ⟨b, v, v', h1, h2, h3, h4, h5⟩
  · rw [h1, h2]; exact Nat.le_refl _
  · rw [h1, h2]; exact zv8 h4
def sumE (env : En) (gs : List Gv) : Nat := (gs.map fun g => cntE env g.name).sum
theorem zx1 (env : En) : ∀ gs : List Gv, sumE env gs ≤ gs.length * 1024
  | [] => Nat.le_refl _
  | g :: gs => by
    have := zx1 env gs
    have h := ydl env g.name
    unfold sumE at this ⊢
    simp only [List.map_cons, List.sum_cons, List.length_cons]; omega
theorem zht {rc : List Bys} {env env' : En} (L : LeE rc env env') : ∀ gs : List Gv, sumE env gs ≤ sumE env' gs
  | [] => Nat.le_refl _
  | g :: gs => by
    have := zht L gs
    have h := zps L g.name
    unfold sumE at this ⊢
    simp only [List.map_cons, List.sum_cons]; omega
theorem zzb {rc : List Bys} {env env' : En} (L : LeE rc env env') : ∀ {gs : List Gv} {g : Gv}, g ∈ gs → cntE env g.name < cntE env' g.name → sumE env gs < sumE env' gs
  | x :: gs, g, hg, h => by
    have m := zht L gs
    have hx := zps L x.name
    rcases List.mem_cons.1 hg with rfl | hg
    · unfold sumE at m ⊢
      simp only [List.map_cons, List.sum_cons]; omega
    · have := zzb L hg h
      unfold sumE at this ⊢
      simp only [List.map_cons, List.sum_cons]; omega
structure RecG (kn : Kn) (rc : List Bys) (gs : List Gv) : Prop where
  ty : ∀ g ∈ gs, Typ kn g.e
  st : ∀ g ∈ gs, g.e.set = false
  nr : ∀ g ∈ gs, NoR rc false g.e
  mem : ∀ g ∈ gs, g.name ∈ rc
  inj : ∀ g ∈ gs, ∀ g' ∈ gs, g.name = g'.name → g = g'
structure RecI (u : U) (kn : Kn) (gs : List Gv) (env : En) : Prop where
  kd : KdOk kn env
  z : S0 env
  at_ : ∀ g ∈ gs, ∃ v, jl g.name env = some (false, v) ∧ leR v.r (evE u env g.e).r
theorem zz4 {u : U} {kn : Kn} {rc : List Bys} {gs : List Gv} (G : RecG kn rc gs) {env : En} (I : RecI u kn gs env) {g : Gv} (hg : g ∈ gs) :
    RecI u kn gs (setE g.name g.e.set (evE u env g.e) env) ∧ LeE rc env (setE g.name g.e.set (evE u env g.e) env) ∧ (chg (jl g.name env) g.e.set (evE u env g.e) = true → sumE env gs < sumE (setE g.name g.e.set (evE u env g.e) env) gs) := by
  rw [G.st g hg]
  obtain ⟨v, hv, hle⟩ := I.at_ g hg
  have s0 : (evE u env g.e).s = 0#32 := zpw I.kd I.z (G.ty g hg) (G.st g hg)
  have v0 : v.s = 0#32 := I.z _ _ hv
  have L : LeE rc env (setE g.name false (evE u env g.e) env) := fun w => by
    rw [pd]
    by_cases hw : w = g.name
    · subst hw
      rw [if_pos (by simp)]
      exact .inr ⟨false, v, _, hv, rfl, v0.trans s0.symm, hle, fun h => absurd (G.mem g hg) h⟩
    · rw [if_neg (by simpa using hw)]
      cases h : jl w env with
      | none => exact .inl ⟨rfl, rfl⟩
      | some p => exact .inr ⟨p.1, p.2, p.2, rfl, rfl, rfl, leR.refl _, fun _ => leR.refl _⟩
  refine ⟨⟨fun w => ?_, fun w x h => ?_, fun k hk => ?_⟩, L, fun hc => ?_⟩
  · rw [pd]
    by_cases hw : w = g.name
    · subst hw
      rw [if_pos (by simp), ← I.kd, hv]; rfl
    · rw [if_neg (by simpa using hw)]; exact I.kd w
  · rw [pd] at h
    by_cases hw : w = g.name
    · subst hw
      rw [if_pos (by simp)] at h
      cases h; exact s0
    · rw [if_neg (by simpa using hw)] at h; exact I.z w x h
  · obtain ⟨m1, m2, m3⟩ := zgo u L k.e false (G.nr k hk)
    rw [pd]
    by_cases hw : k.name = g.name
    · have := G.inj k hk g hg hw
      subst this
      rw [if_pos (by simp)]
      exact ⟨_, rfl, m2⟩
    · rw [if_neg (by simpa using hw)]
      obtain ⟨x, hx, hl⟩ := I.at_ k hk
      exact ⟨x, hx, hl.trans m2⟩
  · refine zzb L hg ?_
    unfold cntE
    rw [pd, if_pos (by simp), hv]
    simp only
    refine ydj hle ?_
    rw [hv] at hc
    simp only [chg, zyd, v0, s0] at hc
    simpa using hc
theorem zhv {u : U} {kn : Kn} {rc : List Bys} {gs : List Gv} (G : RecG kn rc gs) : ∀ (l : List Gv) (p : En × Bool), (∀ g ∈ l, g ∈ gs) → RecI u kn gs p.1 →
    RecI u kn gs (l.foldl (zod u) p).1 ∧ LeE rc p.1 (l.foldl (zod u) p).1 ∧ (p.2 = false → (l.foldl (zod u) p).2 = true → sumE p.1 gs < sumE (l.foldl (zod u) p).1 gs)
  | [], p, _, I => ⟨I, LeE.refl _ _, fun h h2 => by rw [List.foldl_nil, h] at h2; cases h2⟩
  | g :: l, p, hl, I => by
    obtain ⟨I1, L1, c1⟩ := zz4 G I (hl g (by simp))
    obtain ⟨I2, L2, c2⟩ := zhv G l (zod u p g) (fun k hk => hl k (by simp [hk])) I1
    rw [List.foldl_cons]
    refine ⟨I2, L1.trans L2, fun h h2 => ?_⟩
    cases hc : chg (jl g.name p.1) g.e.set (evE u p.1 g.e)
    · have := c2 (by simp [zod, h, hc]) h2
      exact Nat.lt_of_le_of_lt (zht L1 gs) this
    · exact Nat.lt_of_lt_of_le (c1 hc) (zht L2 gs)
theorem zt7 {u : U} {kn : Kn} {rc : List Bys} {gs : List Gv} (G : RecG kn rc gs) : ∀ (n : Nat) (env : En), RecI u kn gs env → gs.length * 1024 < sumE env gs + n → Ends u gs n env
  | 0, env, I, h => by have := zx1 env gs; omega
  | n + 1, env, I, h => by
    obtain ⟨I2, L2, c2⟩ := zhv G gs (env, false) (fun g hg => hg) I
    rw [Ends]
    cases hc : (zda u gs env).2
    · exact .inl rfl
    · refine .inr ⟨rfl, zt7 G n _ I2 ?_⟩
      have := c2 rfl hc
      show _ < sumE (zda u gs env).1 gs + n
      unfold zda at *
      simp only at this
      omega
theorem zyl {u : U} {kn : Kn} {rc : List Bys} {gs : List Gv} (G : RecG kn rc gs) : ∀ (n : Nat) (env : En), RecI u kn gs env → RecI u kn gs (recN u gs n env) ∧ LeE rc env (recN u gs n env)
  | 0, env, I => ⟨I, LeE.refl _ _⟩
  | n + 1, env, I => by
    obtain ⟨I2, L2, c2⟩ := zhv G gs (env, false) (fun g hg => hg) I
    rw [recN]
    split
    · obtain ⟨I3, L3⟩ := zyl G n (zda u gs env).1 I2
      exact ⟨I3, LeE.trans L2 L3⟩
    · exact ⟨I2, L2⟩
theorem ybi {u : U} {kn kn' : Kn} {gs : List Gv} {env : En} (k : KdOk kn env) (z : S0 env) (hk : ∀ w, jk kn' w = if gs.any (fun g => w == g.name) then some false else jk kn w) : RecI u kn' gs (ze9 gs env) := by
  have key : ∀ (l : List Gv) (en : En) (w : Bys), jl w (l.foldl (fun en g => setE g.name false v0 en) en) = if l.any (fun g => w == g.name) then some (false, v0) else jl w en := by
    intro l
    induction l with
    | nil => intro en w; rfl
    | cons g l ih =>
      intro en w
      rw [List.foldl_cons, ih, pd, List.any_cons]
      cases h1 : w == g.name <;> cases h2 : l.any (fun g => w == g.name) <;> simp
  refine ⟨fun w => ?_, fun w v h => ?_, fun g hg => ⟨v0, ?_, yap _⟩⟩
  · rw [ze9, key, hk]
    split
    · rfl
    · exact k w
  · rw [ze9, key] at h
    split at h
    · cases h; rfl
    · exact z w v h
  · rw [ze9, key, if_pos]
    exact List.any_eq_true.2 ⟨g, hg, by simp⟩
end Go.Proofs.YtljdbheclfaloaaGreatDoor.AM
namespace Go.Proofs.YtljdbheclfaloaaGreatDoor.AM
open Go.RowKit
set_option linter.unusedSimpArgs false
set_option linter.unusedVariables false
set_option maxRecDepth 20000

def zrE (env : En) (gs : List Gv) (k : Nat) : En := (gs.take k).foldl (fun en g => setE g.name false v0 en) env
def rdE (u : U) (en : En) (gs : List Gv) (k : Nat) : En × Bool := (gs.take k).foldl (zod u) (en, false)
def ZrI (h h0 : Heap) (q km : Nat) (u : U) (env : En) (gs : List Gv) (s : Value) (k : Nat) (st : St) : Prop := ∃ K, (∃ j : Nat → Value, st = ⟨[pt q, j 1, j 2, pt h.length, j 4, j 5, j 6, j 7, j 8, j 9, j 10, j 11, j 12, j 13, j 14, j 15, j 16, j 17, j 18, j 19, j 20, j 21, j 22, j 23, j 24, j 25, j 26, j 27, j 28, j 29, j 30, j 31, j 32, j 33, j 34, j 35, j 36, j 37, j 38, j 39, j 40, j 41, j 42, j 43, j 44, j 45, j 46, j 47, j 48, j 49, j 50, j 51, j 52, j 53, j 54, s, .int .i64 (gs.length : Int), .int .i64 (k : Int), j 58, j 59, j 60, j 61, j 62, j 63, j 64, j 65, j 66, j 67, j 68, j 69, j 70, j 71, j 72, j 73, j 74, j 75, j 76, j 77, j 78, j 79, j 80, j 81, j 82, j 83, j 84, j 85, j 86, j 87, j 88, j 89, j 90, j 91, j 92, j 93, j 94, j 95, j 96, j 97, j 98, j 99, j 100, j 101, j 102, j 103, j 104, j 105, j 106, j 107, j 108, j 109, j 110, j 111, j 112, j 113, j 114, j 115, j 116], K⟩) ∧ Wd K q km u (zrE env gs k) ∧ KC km h0 K
def ZrO (h h0 : Heap) (q km : Nat) (u : U) (env : En) (gs : List Gv) (st : St) : Prop := ∃ K, (∃ j : Nat → Value, st = ⟨[pt q, j 1, j 2, pt h.length, j 4, j 5, j 6, j 7, j 8, j 9, j 10, j 11, j 12, j 13, j 14, j 15, j 16, j 17, j 18, j 19, j 20, j 21, j 22, j 23, j 24, j 25, j 26, j 27, j 28, j 29, j 30, j 31, j 32, j 33, j 34, j 35, j 36, j 37, j 38, j 39, j 40, j 41, j 42, j 43, j 44, j 45, j 46, j 47, j 48, j 49, j 50, j 51, j 52, j 53, j 54, j 55, j 56, j 57, j 58, j 59, j 60, j 61, j 62, j 63, j 64, j 65, j 66, j 67, j 68, j 69, j 70, j 71, j 72, j 73, j 74, j 75, j 76, j 77, j 78, j 79, j 80, j 81, j 82, j 83, j 84, j 85, j 86, j 87, j 88, j 89, j 90, j 91, j 92, j 93, j 94, j 95, j 96, j 97, j 98, j 99, j 100, j 101, j 102, j 103, j 104, j 105, j 106, j 107, j 108, j 109, j 110, j 111, j 112, j 113, j 114, j 115, j 116], K⟩) ∧ Wd K q km u (ze9 gs env) ∧ KC km h0 K
def WlI (h h0 : Heap) (q km : Nat) (u : U) (kn : Kn) (gs : List Gv) (fin : En) (m : Nat) (st : St) : Prop := ∃ K en c, (∃ j : Nat → Value, st = ⟨[pt q, j 1, j 2, pt h.length, j 4, j 5, j 6, j 7, j 8, j 9, j 10, j 11, .bool c, j 13, j 14, j 15, j 16, j 17, j 18, j 19, j 20, j 21, j 22, j 23, j 24, j 25, j 26, j 27, j 28, j 29, j 30, j 31, j 32, j 33, j 34, j 35, j 36, j 37, j 38, j 39, j 40, j 41, j 42, j 43, j 44, j 45, j 46, j 47, j 48, j 49, j 50, j 51, j 52, j 53, j 54, j 55, j 56, j 57, j 58, j 59, j 60, j 61, j 62, j 63, j 64, j 65, j 66, j 67, j 68, j 69, j 70, j 71, j 72, j 73, j 74, j 75, j 76, j 77, j 78, j 79, j 80, j 81, j 82, j 83, j 84, j 85, j 86, j 87, j 88, j 89, j 90, j 91, j 92, j 93, j 94, j 95, j 96, j 97, j 98, j 99, j 100, j 101, j 102, j 103, j 104, j 105, j 106, j 107, j 108, j 109, j 110, j 111, j 112, j 113, j 114, j 115, j 116], K⟩) ∧ Wd K q km u en ∧ KC km h0 K ∧ RecI u kn gs en ∧ ((c = true ∧ ∃ n, m = n + 1 ∧ Ends u gs n en ∧ recN u gs n en = fin) ∨ (c = false ∧ en = fin))
def WlO (h0 : Heap) (q km : Nat) (u : U) (fin : En) (st : St) : Prop := ∃ K, (∃ j : Nat → Value, st = ⟨[j 0, j 1, j 2, j 3, j 4, j 5, j 6, j 7, j 8, j 9, j 10, j 11, j 12, j 13, j 14, j 15, j 16, j 17, j 18, j 19, j 20, j 21, j 22, j 23, j 24, j 25, j 26, j 27, j 28, j 29, j 30, j 31, j 32, j 33, j 34, j 35, j 36, j 37, j 38, j 39, j 40, j 41, j 42, j 43, j 44, j 45, j 46, j 47, j 48, j 49, j 50, j 51, j 52, j 53, j 54, j 55, j 56, j 57, j 58, j 59, j 60, j 61, j 62, j 63, j 64, j 65, j 66, j 67, j 68, j 69, j 70, j 71, j 72, j 73, j 74, j 75, j 76, j 77, j 78, j 79, j 80, j 81, j 82, j 83, j 84, j 85, j 86, j 87, j 88, j 89, j 90, j 91, j 92, j 93, j 94, j 95, j 96, j 97, j 98, j 99, j 100, j 101, j 102, j 103, j 104, j 105, j 106, j 107, j 108, j 109, j 110, j 111, j 112, j 113, j 114, j 115, j 116], K⟩) ∧ Wd K q km u fin ∧ KC km h0 K
def RdI (h h0 : Heap) (q km : Nat) (u : U) (en : En) (gs : List Gv) (s : Value) (k : Nat) (st : St) : Prop := ∃ K, (∃ j : Nat → Value, st = ⟨[pt q, j 1, j 2, pt h.length, j 4, j 5, j 6, j 7, j 8, j 9, j 10, j 11, .bool (rdE u en gs k).2, j 13, j 14, j 15, j 16, j 17, j 18, j 19, j 20, j 21, j 22, j 23, j 24, j 25, j 26, j 27, j 28, j 29, j 30, j 31, j 32, j 33, j 34, j 35, j 36, j 37, j 38, j 39, j 40, j 41, j 42, j 43, j 44, j 45, j 46, j 47, j 48, j 49, j 50, j 51, j 52, j 53, j 54, j 55, j 56, j 57, j 58, j 59, j 60, j 61, j 62, j 63, j 64, j 65, j 66, j 67, j 68, s, .int .i64 (gs.length : Int), .int .i64 (k : Int), j 72, j 73, j 74, j 75, j 76, j 77, j 78, j 79, j 80, j 81, j 82, j 83, j 84, j 85, j 86, j 87, j 88, j 89, j 90, j 91, j 92, j 93, j 94, j 95, j 96, j 97, j 98, j 99, j 100, j 101, j 102, j 103, j 104, j 105, j 106, j 107, j 108, j 109, j 110, j 111, j 112, j 113, j 114, j 115, j 116], K⟩) ∧ Wd K q km u (rdE u en gs k).1 ∧ KC km h0 K
def RdO (h h0 : Heap) (q km : Nat) (u : U) (en : En) (gs : List Gv) (st : St) : Prop := ∃ K, (∃ j : Nat → Value, st = ⟨[pt q, j 1, j 2, pt h.length, j 4, j 5, j 6, j 7, j 8, j 9, j 10, j 11, .bool (zda u gs en).2, j 13, j 14, j 15, j 16, j 17, j 18, j 19, j 20, j 21, j 22, j 23, j 24, j 25, j 26, j 27, j 28, j 29, j 30, j 31, j 32, j 33, j 34, j 35, j 36, j 37, j 38, j 39, j 40, j 41, j 42, j 43, j 44, j 45, j 46, j 47, j 48, j 49, j 50, j 51, j 52, j 53, j 54, j 55, j 56, j 57, j 58, j 59, j 60, j 61, j 62, j 63, j 64, j 65, j 66, j 67, j 68, j 69, j 70, j 71, j 72, j 73, j 74, j 75, j 76, j 77, j 78, j 79, j 80, j 81, j 82, j 83, j 84, j 85, j 86, j 87, j 88, j 89, j 90, j 91, j 92, j 93, j 94, j 95, j 96, j 97, j 98, j 99, j 100, j 101, j 102, j 103, j 104, j 105, j 106, j 107, j 108, j 109, j 110, j 111, j 112, j 113, j 114, j 115, j 116], K⟩) ∧ Wd K q km u (zda u gs en).1 ∧ KC km h0 K
theorem yd2 {h0 K : Heap} {q km : Nat} {u : U} {kn : Kn} {rc : List Bys} {en : En} {gs : List Gv} (G : RecG kn rc gs) (I : RecI u kn gs en) {k : Nat} (w : Wd K q km u (rdE u en gs k).1) (kc : KC km h0 K) {g : Gv} (hg : gs[k]? = some g) {b : Nat} {S' : Nat → Prop} (t : TreeP K S' (pt b) g.e) :
    ∃ c row K2, DF FF vw [pt q, pt b] (K ++ [.cells (qd g (pt b)) 0 false]) = some (agg row, K ++ [.cells (qd g (pt b)) 0 false]) ∧ DF FF jv [pt q, str g.name, agg row] (K ++ [.cells (qd g (pt b)) 0 false]) = some (.bool c, K2) ∧ Wd K2 q km u (rdE u en gs (k + 1)).1 ∧ KC km h0 K2 ∧ (rdE u en gs (k + 1)).2 = ((rdE u en gs k).2 || c) := by
  obtain ⟨I2, _, _⟩ := zhv G (gs.take k) (en, false) (fun g hg => List.mem_of_mem_take hg) I
  have hm : g ∈ gs := List.mem_of_getElem? hg
  obtain ⟨v, hv, _⟩ := I2.at_ g hm
  have hkd : kdE (rdE u en gs k).1 g.e = g.e.set := zrt I2.kd (G.ty g hm)
  obtain ⟨c, K2, q1, w2, k2, hc⟩ := zzi (w.more [.cells (qd g (pt b)) 0 false]) g.name (nmE (rdE u en gs k).1 g.e) (kdE (rdE u en gs k).1 g.e) (evE u (rdE u en gs k).1 g.e)
  rw [hkd] at w2
  have e : rdE u en gs (k + 1) = zod u (rdE u en gs k) g := zao hg _ _
  refine ⟨c, _, K2, zfu u _ g.e _ q km S' (pt b) (w.more _) (t.keep fun _ _ _ ho => y7 _ ho), q1, by rw [e]; exact w2, (kc.trans (KC.more _ _)).trans k2, ?_⟩
  rw [e, hc _ hv, hkd]
  show (_ || chg (jl g.name (rdE u en gs k).1) _ _) = _
  rw [show jl g.name (rdE u en gs k).1 = some (false, v) from hv]
set_option maxHeartbeats 8000000 in
theorem ybw {h : Heap} {q km : Nat} {u : U} {env : En} {kn : Kn} {rc : List Bys} {S : Nat → Prop} {vs : List Value} {s : Value} {gs : List Gv} (W : Wd h q km u env) (hs : Sl h s 3 (List.zipWith qd gs vs)) (G : GsP h S vs gs) (hl : gs.length ≤ 8192) (GG : RecG kn rc gs) (I0 : RecI u kn gs (ze9 gs env)) :
    ∃ h', DF FF qj [pt q, agg [str wRec, s, nilP, str []]] h = some (.bool true, h') ∧ Wd h' q km u (recN u gs (recK gs) (ze9 gs env)) ∧ KC km h h' := by
  have : ∃ v h', DF FF qj [pt q, agg [str wRec, s, nilP, str []]] h = some (v, h') ∧ (v = .bool true ∧ Wd h' q km u (recN u gs (recK gs) (ze9 gs env)) ∧ KC km h h') := by
    refine wz zbu ?_
    have lens : ∀ K, lenO K s = some (.int .i64 (gs.length : Int), K) := fun K => by rw [hs.len, zek G.len]
    obtain ⟨h0, hh0⟩ : ∃ h0, h0 = h ++ [AObj.cells [str [114, 101, 99], s, nilP, str []] 0 false] := ⟨_, rfl⟩
    have k0 : KC km h h0 := by rw [hh0]; exact KC.more _ _
    have W0 : Wd h0 q km u env := by rw [hh0]; exact W.more _
    have g0 : h0[h.length]? = some (.cells [str [114, 101, 99], s, nilP, str []] 0 false) := by rw [hh0]; simp
    have rg : ∀ K, KC km h0 K → ∀ j, Heap.read1 K ⟨h.length, j, some 0⟩ = ([str [114, 101, 99], s, nilP, str []] : List Value)[j]? := fun K kc j => xz (kc.keep _ _ _ _ g0)
    have rg0 := rg h0 (KC.refl _)
    have hE : Ends u gs (recK gs) (ze9 gs env) := zt7 GG _ _ I0 (by unfold recK; omega)
    obtain ⟨fin, hfin⟩ : ∃ fin, fin = recN u gs (recK gs) (ze9 gs env) := ⟨_, rfl⟩
    rw [← hfin]
    simp only [kf, ya, zt, zb, zz, zw, yb, zn, zc, zo, zf, ze, zd, List.set_cons_succ, List.set_cons_zero, O_mv, yy, yg, fc, zx, zk, List.cons_append, List.nil_append, List.length_cons, List.length_nil, Nat.reduceAdd, Nat.reduceSub, Nat.zero_add, zm, yc, zy, za, w8, xb, z7, zg, zh, Nat.add_zero, List.getElem?_cons_zero, List.getElem?_cons_succ, beq_self_eq_true, eq_self, yf, zs, yk, va, fy, wRec, yf6, yf, ← hh0, rg0, lens]
    refine bu 5 gs.length (ZrI h h0 q km u env gs s) (ZrO h h0 q km u env gs) ?_ ?_ _ ⟨h0, junk rfl, W0, KC.refl _⟩ ?_
    · rintro k st hk ⟨K, ⟨j, rfl⟩, w, kc⟩
      have hg : gs[k]? = some gs[k] := List.getElem?_eq_getElem hk
      obtain ⟨b, S', b', o, v, a1, a2, t⟩ := zv7 hs G (k0.trans kc) hg
      obtain ⟨c, K2, q1, w2, k2, _⟩ := zzi (w.more [.cells (qd gs[k] (pt b)) 0 false]) gs[k].name [] false v0
      have h1 : ((k : Int) < (gs.length : Int)) = True := by simp; omega
      simp only [ya, zt, yo, zb, zz, yb, zn, zc, zp, zo, zf, ze, zd, List.set_cons_succ, List.set_cons_zero, O_mv, yy, yg, ye, List.map_cons, List.map_nil, vg, zx, zk, xr, y4, wd, y6, yd, yx, vz, wi, List.length_cons, List.length_nil, Nat.reduceAdd, Nat.zero_add, zm, yc, zy, za, zi, yq, xb, z7, zl, yu, z6, yr, ym, yh, zu, zr, Nat.add_zero, Option.map_some, eq_self, yp, decide_true, h1, a1, a2, ku, zfo, q1, xp (k := k) (by omega)]
      exact ⟨K2, junk rfl, by rw [zrE, zao hg]; exact w2, (kc.trans (KC.more _ _)).trans k2⟩
    · rintro st ⟨K, ⟨j, rfl⟩, w, kc⟩
      have h1 : ((gs.length : Int) < (gs.length : Int)) = False := by simp
      simp only [ya, zt, vc, zb, zw, yb, zn, zc, zo, ze, zd, List.set_cons_succ, List.set_cons_zero, yy, yg, wi, zm, yc, za, yz, g7, xm, decide_false, h1, g7]
      rw [zrE, List.take_length] at w
      exact ⟨K, junk rfl, w, kc⟩
    rintro st ⟨K, ⟨j, rfl⟩, w, kc⟩
    simp only [ya, zb, yb, zn, zc, zf, List.set_cons_succ, List.set_cons_zero, O_mv, zm, yc, zy, za, yj]
    refine zty 7 (WlI h h0 q km u kn gs fin) (WlO h0 q km u fin) ?_ (recK gs + 1) _ ⟨K, _, true, junk rfl, w, kc, I0, .inl ⟨rfl, _, rfl, hE, hfin.symm⟩⟩ ?_
    · rintro m st ⟨K, en, c, ⟨j, rfl⟩, w, kc, I, ⟨rfl, n, rfl, hE, hf⟩ | ⟨rfl, rfl⟩⟩
      · have rgK := rg K kc
        simp only [ya, zt, yo, zb, zz, yb, zn, zc, zo, zf, ze, zd, List.set_cons_succ, List.set_cons_zero, O_mv, yg, fc, zx, zk, Nat.zero_add, zm, yc, zy, za, xb, z7, List.getElem?_cons_zero, List.getElem?_cons_succ, rgK, lens]
        refine bu 9 gs.length (RdI h h0 q km u en gs s) (RdO h h0 q km u en gs) ?_ ?_ _ ⟨K, junk rfl, w, kc⟩ ?_
        · rintro k st hk ⟨K, ⟨j, rfl⟩, w, kc⟩
          have hg : gs[k]? = some gs[k] := List.getElem?_eq_getElem hk
          obtain ⟨b, S', b', o, v, a1, a2, t⟩ := zv7 hs G (k0.trans kc) hg
          obtain ⟨c, row, K2, q1, q2, w2, k2, hc⟩ := yd2 GG I w kc hg t
          have h1 : ((k : Int) < (gs.length : Int)) = True := by simp; omega
          have ag : zb1 (K ++ [.cells (qd gs[k] (pt b)) 0 false]) (.pointer (some ⟨K.length, 0, some 0⟩)) (str gs[k].name) = some (undef, K ++ [.cells (qd gs[k] (pt b)) 0 false]) := zv2 (by simp [Heap.read1, qd])
          cases c
          · simp only [ya, zt, yo, zb, zz, yb, zn, yi, zc, zp, y0, zo, zf, ze, zd, List.set_cons_succ, List.set_cons_zero, O_mv, y3, xj, yy, yg, ye, List.map_cons, List.map_nil, vg, zx, zk, xr, y4, vz, wi, List.length_cons, List.length_nil, Nat.reduceAdd, Nat.zero_add, zm, yc, zy, za, zi, yq, xb, z7, zl, yu, z6, yr, ym, yh, zu, zr, Nat.add_zero, Option.map_some, eq_self, zdk, yp, decide_true, h1, a1, a2, ku, zfo, ze0, q1, ag, q2, xp (k := k) (by omega)]
            rw [Bool.or_false] at hc
            exact ⟨K2, by rw [hc]; exact junk rfl, w2, k2⟩
          · simp only [ya, zt, yo, zb, zz, yb, zn, yi, zc, zp, wv, zo, zf, ze, zd, List.set_cons_succ, List.set_cons_zero, O_mv, y3, xj, yy, yg, ye, List.map_cons, List.map_nil, vg, zx, zk, xr, y4, vz, wi, List.length_cons, List.length_nil, Nat.reduceAdd, Nat.zero_add, zm, yc, zy, za, zi, yq, xb, z7, zl, yu, z6, yr, ym, yh, zu, zr, Nat.add_zero, Option.map_some, eq_self, zdk, yp, decide_true, h1, a1, a2, ku, zfo, ze0, q1, ag, q2, xp (k := k) (by omega)]
            rw [Bool.or_true] at hc
            exact ⟨K2, by rw [hc]; exact junk rfl, w2, k2⟩
        · rintro st ⟨K, ⟨j, rfl⟩, w, kc⟩
          have h1 : ((gs.length : Int) < (gs.length : Int)) = False := by simp
          simp only [ya, zt, vc, zb, zw, yb, zn, zc, zo, ze, zd, List.set_cons_succ, List.set_cons_zero, yy, yg, wi, zm, yc, za, yz, g7, xm, decide_false, h1, g7]
          have e : rdE u en gs gs.length = zda u gs en := by unfold rdE zda; rw [List.take_length]
          rw [e] at w
          exact ⟨K, by rw [e]; exact junk rfl, w, kc⟩
        rintro st ⟨K, ⟨j, rfl⟩, w, kc⟩
        simp only [zi, yj, vt]
        obtain ⟨I2, _, _⟩ := zhv GG gs (en, false) (fun g hg => hg) I
        cases n with
        | zero => exact hE.elim
        | succ n =>
          rw [Ends] at hE
          rw [recN] at hf
          rcases hE with hE | ⟨hE, hE2⟩
          · rw [if_neg (by rw [hE]; simp)] at hf
            exact ⟨0, by omega, K, _, _, junk rfl, w, kc, I2, .inr ⟨hE, hf⟩⟩
          · rw [if_pos hE] at hf
            exact ⟨n + 1, by omega, K, _, _, junk rfl, w, kc, I2, .inl ⟨hE, n, rfl, hE2, hf⟩⟩
      · simp only [ya, zt, vc, zb, zw, yb, zn, zc, zo, ze, zd, List.set_cons_succ, List.set_cons_zero, O_mv, zm, yc, za, yz, zaf, g7, g7]
        exact ⟨K, junk rfl, w, kc⟩
    rintro st ⟨K, ⟨j, rfl⟩, w, kc⟩
    simp only [ya, xf, zb, yb, zn, zc, zf, ze, zd, List.set_cons_succ, List.set_cons_zero, O_mv, zm, yc, za, zi, yj, wh, eq_self]
    exact ⟨trivial, W.fin w _, (k0.trans kc).fin _⟩
  obtain ⟨v, h', hq, rfl, hw, hk⟩ := this
  exact ⟨h', hq, hw, hk⟩
end Go.Proofs.YtljdbheclfaloaaGreatDoor.AM
namespace Go.Proofs.YtljdbheclfaloaaGreatDoor.AM
open Go.RowKit
set_option linter.unusedSimpArgs false
set_option linter.unusedVariables false
set_option maxRecDepth 20000

def zwm (kn : Kn) : Stm → Prop
  | .lets false gs => gs.length ≤ 8192 ∧ (∀ g ∈ gs, Typ kn g.e) ∧ (∀ g ∈ gs, jk kn g.name = none) ∧ (gs.map (·.name)).Nodup
  | .lets true gs => gs.length ≤ 8192 ∧ RecG (kn ++ gs.map fun g => (g.name, false)) (gs.map (·.name)) gs ∧ (∀ g ∈ gs, jk kn g.name = none) ∧ (gs.map (·.name)).Nodup
  | .chk _ x _ => Typ kn x
def zpp : Kn → List Stm → Prop
  | _, [] => True
  | kn, s :: l => zwm kn s ∧ zpp (kn ++ s.given) l
structure EnI (kn : Kn) (env : En) : Prop where
  kd : KdOk kn env
  z : S0 env
theorem zkm {kn : Kn} : ∀ {gs : List Gv} {n : Nat} {here : List Bys}, zba kn n here gs = .ok () → (∀ g ∈ gs, jk kn g.name = none ∧ g.name ∉ here) ∧ (gs.map (·.name)).Nodup
  | [], n, here, h => ⟨by simp, by simp⟩
  | g' :: gs, n, here, h => by
    rw [zba] at h
    split at h
    · cases h
    · rename_i h1
      split at h
      · cases h
      · have h1 := Bool.not_eq_true _ |>.mp h1
        rw [Bool.or_eq_false_iff] at h1
        obtain ⟨a, b⟩ := zkm h
        refine ⟨fun g hg => ?_, ?_⟩
        · rcases List.mem_cons.1 hg with rfl | hg
          · exact ⟨by simpa using h1.1, by simpa using h1.2⟩
          · exact ⟨(a g hg).1, fun hh => (a g hg).2 (by simp [hh])⟩
        · rw [List.map_cons, List.nodup_cons]
          refine ⟨fun hh => ?_, b⟩
          obtain ⟨g, hg, he⟩ := List.mem_map.1 hh
          exact (a g hg).2 (by simp [he])
theorem zxf {gs : List Gv} (h : (gs.map (·.name)).Nodup) : ∀ g ∈ gs, ∀ g' ∈ gs, g.name = g'.name → g = g' := by
  induction gs with
  | nil => intro g hg; cases hg
  | cons x gs ih =>
    rw [List.map_cons, List.nodup_cons] at h
    intro g hg g' hg' e
    rcases List.mem_cons.1 hg with h1 | h1 <;> rcases List.mem_cons.1 hg' with h2 | h2
    · rw [h1, h2]
    · subst h1; exact absurd (List.mem_map.2 ⟨g', h2, e.symm⟩) h.1
    · subst h2; exact absurd (List.mem_map.2 ⟨g, h1, e⟩) h.1
    · exact ih h.2 g h1 g' h2 e
theorem zy1 {F : Gv → Vv} : ∀ {gs : List Gv} {kn : Kn} {env : En}, KdOk kn env → (∀ g ∈ gs, jk kn g.name = none) → (gs.map (·.name)).Nodup → KdOk (kn ++ kq gs) (gs.foldl (fun en g => setE g.name g.e.set (F g) en) env)
  | [], kn, env, k, _, _ => by simpa [kq] using k
  | g :: gs, kn, env, k, hf, hn => by
    rw [List.map_cons, List.nodup_cons] at hn
    have h0 := hf g (by simp)
    have k1 : KdOk (kn ++ [(g.name, g.e.set)]) (setE g.name g.e.set (F g) env) := fun w => by
      rw [pd, gu]
      by_cases hw : w = g.name
      · subst hw
        rw [if_pos (by simp), h0]; simp [jk]
      · rw [if_neg (by simpa using hw), k w]
        have : jk [(g.name, g.e.set)] w = none := by rw [jk, if_neg (by simpa using hw)]; rfl
        rw [this, Option.or_none]
    have := zy1 (F := F) (gs := gs) k1 (fun g' hg' => by
      rw [gu, hf g' (by simp [hg'])]
      have : g'.name ≠ g.name := fun e => hn.1 (List.mem_map.2 ⟨g', hg', e⟩)
      rw [Option.none_or, jk, if_neg (by simpa using this)]; rfl) hn.2
    rw [List.append_assoc] at this
    exact this
theorem zyj {F : Gv → Vv} : ∀ {gs : List Gv} {env : En}, S0 env → (∀ g ∈ gs, g.e.set = false → (F g).s = 0#32) → S0 (gs.foldl (fun en g => setE g.name g.e.set (F g) en) env)
  | [], env, z, _ => z
  | g :: gs, env, z, hf => by
    refine zyj (gs := gs) (fun w v h => ?_) fun g' hg' => hf g' (by simp [hg'])
    rw [pd] at h
    by_cases hw : w = g.name
    · rw [if_pos (by simpa using hw)] at h
      simp only [Option.some.injEq, Prod.mk.injEq] at h
      obtain ⟨h1, rfl⟩ := h
      exact hf g (by simp) h1
    · rw [if_neg (by simpa using hw)] at h; exact z w v h
theorem zqk {u : U} {kn : Kn} {gs : List Gv} {env : En} (e : EnI kn env) (hf : ∀ g ∈ gs, jk kn g.name = none) : RecI u (kn ++ gs.map fun g => (g.name, false)) gs (ze9 gs env) := by
  refine ybi e.kd e.z fun w => ?_
  rw [gu]
  have key : ∀ l : List Gv, jk (l.map fun g => (g.name, false)) w = if l.any (fun g => w == g.name) then some false else none := by
    intro l
    induction l with
    | nil => rfl
    | cons g l ih =>
      rw [List.map_cons, jk, ih, List.any_cons]
      cases w == g.name <;> simp
  rw [key]
  split
  · rename_i h
    obtain ⟨g, hg, he⟩ := List.any_eq_true.1 h
    have : w = g.name := eq_of_beq he
    rw [this, hf g hg]; rfl
  · exact Option.or_none
theorem ye9 {u : U} {kn : Kn} {env : En} {st : Stm} (ok : zwm kn st) (e : EnI kn env) : EnI (kn ++ st.given) (doE u env st) := by
  cases st with
  | chk k x a => simpa [Stm.given, doE] using e
  | lets rc gs =>
    cases rc with
    | false =>
      obtain ⟨_, ty, hf, hn⟩ := ok
      exact ⟨zy1 e.kd hf hn, zyj e.z fun g hg hs => zpw e.kd e.z (ty g hg) hs⟩
    | true =>
      obtain ⟨_, G, hf, hn⟩ := ok
      have := (zyl G (recK gs) _ (zqk (u := u) e hf)).1
      have hs : kq gs = gs.map fun g => (g.name, false) := List.map_congr_left fun g hg => by rw [G.st g hg]
      show EnI (kn ++ kq gs) _
      rw [hs]
      exact ⟨this.kd, this.z⟩
theorem ydn {kn : Kn} {n : Nat} {s s' : Stm} (h : chkS kn n s = .ok s') (hl : ∀ rc gs, s = .lets rc gs → gs.length ≤ 8192) : zwm kn s' := by
  cases s with
  | chk k x a =>
    rw [chkS] at h
    split at h
    · cases h
    · rename_i x' hx
      split at h
      · cases h
      · cases h; exact zed hx
  | lets rc gs =>
    have hl := hl rc gs rfl
    rw [chkS] at h
    split at h
    · cases h
    · rename_i hf
      split at h
      · cases h
      · rename_i l hg
        cases h
        obtain ⟨f1, f2⟩ := zkm hf
        have hnm := zg6 hg
        have hnames : l.map (·.name) = gs.map (·.name) := by
          have := congrArg (List.map Prod.fst) hnm
          simpa [List.map_map, Function.comp_def] using this
        have hll : l.length = gs.length := by have := congrArg List.length hnm; simpa using this
        have hfr : ∀ g ∈ l, jk kn g.name = none := fun g hgm => by
          have : g.name ∈ gs.map (·.name) := by rw [← hnames]; exact List.mem_map.2 ⟨g, hgm, rfl⟩
          obtain ⟨g', hg', he⟩ := List.mem_map.1 this
          rw [← he]; exact (f1 g' hg').1
        have each : ∀ {kn rc b} {gs l : List Gv}, zf7 kn rc b gs = .ok l → ∀ g ∈ l, Typ kn g.e ∧ NoR rc false g.e := by
          intro kn rc b gs
          induction gs with
          | nil => intro l h g hg; rw [zf7] at h; cases h; cases hg
          | cons g0 gs ih =>
            intro l h g hg
            rw [zf7] at h
            split at h
            · cases h
            · rename_i x hx
              split at h
              · cases h
              · split at h
                · cases h
                · rename_i l' hl'
                  cases h
                  rcases List.mem_cons.1 hg with rfl | hg
                  · exact ⟨zed hx, zgh hx⟩
                  · exact ih hl' g hg
        cases rc with
        | false => exact ⟨by omega, fun g hgm => (each hg g hgm).1, hfr, by rw [hnames]; exact f2⟩
        | true =>
          have e : (gs.map fun g => (g.name, false)) = l.map fun g => (g.name, false) := by
            have := congrArg (List.map fun w : Bys => (w, false)) hnames
            simpa [List.map_map, Function.comp_def] using this.symm
          simp only [if_true] at hg
          refine ⟨by omega, ⟨fun g hgm => by rw [← e]; exact (each hg g hgm).1, zne hg, fun g hgm => by rw [hnames]; exact (each hg g hgm).2, fun g hgm => List.mem_map.2 ⟨g, hgm, rfl⟩, zxf (by rw [hnames]; exact f2)⟩, hfr, by rw [hnames]; exact f2⟩
theorem zzf : ∀ {l l' : List Stm} {kn : Kn} {n : Nat}, chkM kn n l = .ok l' → (∀ rc gs, Stm.lets rc gs ∈ l → gs.length ≤ 8192) → zpp kn l'
  | [], l', kn, n, h, _ => by rw [chkM] at h; cases h; trivial
  | s :: l, l', kn, n, h, hl => by
    rw [chkM] at h
    split at h
    · cases h
    · rename_i s' hs
      split at h
      · cases h
      · rename_i l2 hl2
        cases h
        exact ⟨ydn hs fun rc gs e => hl rc gs (by simp [e]), zzf hl2 fun rc gs hm => hl rc gs (by simp [hm])⟩
theorem yfs {h : Heap} {q km : Nat} {u : U} {kn : Kn} {env : En} {T : Nat → Prop} {row : List Value} {st : Stm} (W : Wd h q km u env) (p : StP h T row st) (ok : zwm kn st) (e : EnI kn env) :
    ∃ h', DF FF qj [pt q, agg row] h = some (.bool (zyp u env st), h') ∧ Wd h' q km u (doE u env st) ∧ KC km h h' := by
  cases st with
  | chk k x a =>
    obtain ⟨v, rfl, t⟩ := p
    exact ⟨h, yb4 W t k a, W, KC.refl _⟩
  | lets rc gs =>
    obtain ⟨s, vs, S, rfl, hs, G, _, _⟩ := p
    cases rc with
    | false =>
      obtain ⟨hl, ty, hf, hn⟩ := ok
      exact zz3 W hs G hl e.kd ty
    | true =>
      obtain ⟨hl, RG, hf, hn⟩ := ok
      exact ybw W hs G hl RG (zqk e hf)
end Go.Proofs.YtljdbheclfaloaaGreatDoor.AM
namespace Go.Proofs.YtljdbheclfaloaaGreatDoor.AM
open Go.RowKit
set_option linter.unusedSimpArgs false
set_option linter.unusedVariables false
set_option maxRecDepth 20000

def za5 (bl : En) : List (List Value) := bl.map fun p => wu p.1 p.2.1 p.2.2
def isD (d : Bys × Bool) (p : Bys × Bool × Vv) : Bool := p.1 == d.1 && p.2.1 == d.2
def idxD (d : Bys × Bool) : En → Option Nat
  | [] => none
  | p :: r => if isD d p then some 0 else (idxD d r).map (· + 1)
def zou (d : Bys × Bool) (bl : En) : Vv := match bl.find? (isD d) with
  | none => v0
  | some p => if d.2 then ⟨p.2.2.s, fun _ => 0#32⟩ else ⟨0#32, p.2.2.r⟩
theorem zpy (d : Bys × Bool) : ∀ bl : En, (bl.find? (isD d)) = (idxD d bl).bind fun i => bl[i]?
  | [] => rfl
  | p :: r => by
    rw [List.find?_cons, idxD]
    cases isD d p
    · simp only [Bool.false_eq_true, if_false]
      rw [zpy d r]
      cases idxD d r <;> rfl
    · rfl
theorem zyu (d : Bys × Bool) : ∀ {bl : En} {i : Nat}, idxD d bl = some i → i < bl.length
  | [], i, h => by cases h
  | p :: r, i, h => by
    rw [idxD] at h
    split at h
    · cases h; simp
    · cases hr : idxD d r with
      | none => rw [hr] at h; cases h
      | some k => rw [hr] at h; cases h; have := zyu d hr; simp; omega
theorem zzu (d : Bys × Bool) (bl : En) {k : Nat} {p : Bys × Bool × Vv} (h : bl[k]? = some p) : idxD d (bl.drop k) = if isD d p then some 0 else (idxD d (bl.drop (k + 1))).map (· + 1) := by
  obtain ⟨hk, rfl⟩ := List.getElem?_eq_some_iff.1 h
  rw [List.drop_eq_getElem_cons hk, idxD]
set_option maxHeartbeats 4000000 in
theorem yal (d : Bys × Bool) (p : Bys × Bool × Vv) {h : Heap} {c : Nat} (hc : h[c]? = some (.cells (w5 d) 0 false)) : DF FF gm [agg (wu p.1 p.2.1 p.2.2), pt c] h = some (.bool (isD d p), h) := by
  refine wj zhh ?_
  have rc : ∀ L j, Heap.read1 (h ++ L) ⟨c, j, some 0⟩ = (w5 d)[j]? := fun L j => xz (y7 L hc)
  cases hn : p.1 == d.1
  · simp only [zai, ya, xf, zb, yb, zn, yi, zc, vq, zo, zf, ze, zd, List.set_cons_succ, List.set_cons_zero, O_mv, y3, xj, yy, yg, zx, zk, List.cons_append, List.nil_append, List.length_cons, List.length_nil, Nat.reduceAdd, Nat.reduceSub, Nat.zero_add, zm, yc, za, w8, xb, z7, yr, ym, zg, zh, Nat.add_zero, List.getElem?_cons_zero, eq_self, yf, zs, va, qe, bd_0, yf, rc, w5, hn]
    rw [zf8 _ _ _ _ _ rfl]
    simp only [isD, hn]; rfl
  · simp only [zai, ya, xf, zb, yb, zn, yi, zc, xy, zo, zf, ze, zd, List.set_cons_succ, List.set_cons_zero, O_mv, y3, xj, yy, yg, zx, zk, List.cons_append, List.nil_append, List.length_cons, List.length_nil, Nat.reduceAdd, Nat.reduceSub, Nat.zero_add, zm, yc, za, w8, xb, z7, yr, ym, zg, zh, Nat.add_zero, List.getElem?_cons_zero, List.getElem?_cons_succ, Bool.bne_false, jp, zhs, eq_self, yf, zs, va, qe, bd_0, bd_1, yf, rc, w5, hn, zhs]
    rw [zf8 _ _ _ _ _ rfl]
    simp only [isD, hn, Bool.true_and]
    first | rfl | (simp; done) | skip
set_option maxHeartbeats 4000000 in
theorem ydr (d : Bys × Bool) (bl : En) {h : Heap} {s : Value} {c : Nat} (hs : Sl h s 35 (za5 bl)) (hl : bl.length < 4611686018427387904) (hc : h[c]? = some (.cells (w5 d) 0 false)) :
    DF FF qu [s, .func (.func gm) [].toArray [pt c].toArray] h = some (.int .i64 (match idxD d bl with | some i => (i : Int) | none => -1), h) := by
  refine wj pm ?_
  have lens : ∀ K, lenO K s = some (.int .i64 (bl.length : Int), K) := fun K => by rw [hs.len]; simp [za5]
  simp only [j9, ya, zb, yb, zn, zc, zo, zf, ze, zd, List.set_cons_succ, List.set_cons_zero, O_mv, fc, List.cons_append, List.nil_append, List.length_cons, List.length_nil, Nat.reduceAdd, Nat.reduceSub, Nat.zero_add, zm, yc, zy, za, zg, zh, lens]
  refine p7 bl.length (fun k st => (∃ j : Nat → Value, st = ⟨[s, .func (.func gm) [].toArray [pt c].toArray, j 2, j 3, j 4, j 5, j 6, .int .i64 (bl.length : Int), .int .i64 (k : Int), j 9, j 10, j 11, j 12, j 13, j 14, j 15, j 16, j 17, j 18], h⟩) ∧ idxD d bl = (idxD d (bl.drop k)).map (· + k)) ?_ ?_ _ ⟨junk rfl, by rw [List.drop_zero]; cases idxD d bl <;> rfl⟩
  · rintro k st hk ⟨⟨j, rfl⟩, e⟩
    obtain ⟨b', o, v, a1, a2⟩ := hs.atH (k := k) (by simpa [za5] using hk)
    have h1 : ((k : Int) < (bl.length : Int)) = True := by simp; omega
    have hb : bl[k]? = some bl[k] := List.getElem?_eq_getElem hk
    have a3 : Heap.read h ⟨b', o, some v⟩ 35 = some (wu bl[k].1 bl[k].2.1 bl[k].2.2) := by rw [a2]; simp [za5]
    have q1 := yal d bl[k] hc
    rw [zzu d bl hb] at e
    cases hi : isD d bl[k]
    · rw [hi] at q1 e
      simp only [ya, zt, yo, zb, zz, zw, yb, zn, zc, zo, zf, ze, zd, List.set_cons_succ, List.set_cons_zero, O_mv, yy, yg, List.map_cons, List.map_nil, vg, xr, y4, vz, wi, List.cons_append, List.nil_append, zm, yc, zy, za, zi, Option.map_some, yp, decide_true, h1, a1, a3, bt, je, q1, xp (k := k) (by omega)]
      refine ⟨junk rfl, ?_⟩
      rw [e]
      simp only [Bool.false_eq_true, if_false, Option.map_map]
      congr 1
      funext x
      simp only [Function.comp_def]; omega
    · rw [hi] at q1 e
      simp only [ya, zt, xf, yo, zb, zz, yb, zn, zc, zo, ze, zd, List.set_cons_succ, List.set_cons_zero, O_mv, yy, yg, List.map_cons, List.map_nil, vg, xr, y4, wi, List.cons_append, List.nil_append, zm, yc, zy, za, xa, wg, zc3, Option.map_some, zeb, decide_true, h1, a1, a3, bt, je, q1]
      rw [e]
      simp
      done
  · rintro st ⟨⟨j, rfl⟩, e⟩
    have h1 : ((bl.length : Int) < (bl.length : Int)) = False := by simp
    simp only [ya, zt, vc, xf, zb, zw, yb, zn, zc, zo, zf, ze, zd, List.set_cons_succ, List.set_cons_zero, O_mv, yy, yg, wi, zm, yc, za, yz, yj, zc3, xm, decide_false, h1]
    rw [e, List.drop_length]
    simp [idxD]
    done
end Go.Proofs.YtljdbheclfaloaaGreatDoor.AM
namespace Go.Proofs.YtljdbheclfaloaaGreatDoor.AM
open Go.RowKit
set_option linter.unusedSimpArgs false
set_option linter.unusedVariables false
set_option maxRecDepth 20000

theorem ybk {h : Heap} {b o n : Nat} {v : Option Nat} {l : List Value} (e : h.read ⟨b, o, v⟩ n = some l) {i m : Nat} (hi : i + m ≤ n) : h.read ⟨b, o + i, v⟩ m = some ((l.drop i).take m) := by
  unfold Heap.read at e ⊢
  simp only at e ⊢
  cases hb : h[b]? with
  | none => rw [hb] at e; cases e
  | some x =>
    rw [hb] at e
    cases x with
    | cells c w ro =>
      simp only at e ⊢
      split at e
      · rename_i hc
        rw [if_pos ⟨hc.1, by omega⟩]
        cases e
        congr 1
        rw [List.drop_take, List.drop_drop, List.take_take, Nat.min_eq_left (by omega)]
      · cases e
    | map es => cases e
    | gone => cases e
theorem v0_s : v0.s = 0#32 := rfl
theorem v0_r : v0.r = fun _ => 0#32 := rfl
def begE (known : Kn) (bl : En) (k : Nat) : En := (known.take k).foldl (fun en d => setE d.1 d.2 (zou d bl) en) []
structure BgS (h : Heap) (u : U) (known : Kn) (bl : En) (k : Nat) (K : Heap) : Prop where
  w : Wd K (h.length + 1) h.length u (begE known bl k)
  p : Pre h K
theorem ye7 {h K : Heap} {u : U} {known : Kn} {bl : En} {k : Nat} (e : BgS h u known bl k K) {d : Bys × Bool} (hd : known[k]? = some d) (a : List Value) :
    ∃ K', updO (K ++ [.cells a 0 false, .cells (wu d.1 d.2 (zou d bl)) 0 false]) .str (.map (some h.length)) (str d.1) (agg (wu d.1 d.2 (zou d bl))) = some (undef, K') ∧ BgS h u known bl (k + 1) K' := by
  refine ⟨_, zmw _ (e.w.more _).hk (ycs d.1 d.2 (zou d bl) _), ?_, (e.p.more _).set (Nat.le_refl _) _⟩
  have e2 : begE known bl (k + 1) = setE d.1 d.2 (zou d bl) (begE known bl k) := zao hd _ _
  rw [e2]
  exact (e.w.more _).set _
def BgI (h : Heap) (u : U) (known : Kn) (bl : En) (bs ks : Value) (k : Nat) (st : St) : Prop := ∃ K, (∃ j : Nat → Value, st = ⟨[j 0, j 1, bs, j 3, j 4, j 5, j 6, pt (h.length + 1), j 8, j 9, j 10, j 11, j 12, j 13, j 14, j 15, j 16, j 17, j 18, ks, .int .i64 (known.length : Int), .int .i64 (k : Int), j 22, j 23, j 24, j 25, j 26, j 27, j 28, j 29, j 30, j 31, j 32, j 33, j 34, j 35, j 36, j 37, j 38, j 39, j 40, j 41, j 42, j 43, j 44, j 45, j 46, j 47, j 48, j 49, j 50, j 51, j 52, j 53, j 54, j 55, j 56, j 57, j 58, j 59], K⟩) ∧ BgS h u known bl k K
def BgO (h : Heap) (u : U) (known : Kn) (bl : En) (st : St) : Prop := ∃ K, (∃ j : Nat → Value, st = ⟨[j 0, j 1, j 2, j 3, j 4, j 5, j 6, pt (h.length + 1), j 8, j 9, j 10, j 11, j 12, j 13, j 14, j 15, j 16, j 17, j 18, j 19, j 20, j 21, j 22, j 23, j 24, j 25, j 26, j 27, j 28, j 29, j 30, j 31, j 32, j 33, j 34, j 35, j 36, j 37, j 38, j 39, j 40, j 41, j 42, j 43, j 44, j 45, j 46, j 47, j 48, j 49, j 50, j 51, j 52, j 53, j 54, j 55, j 56, j 57, j 58, j 59], K⟩) ∧ BgS h u known bl known.length K
set_option maxHeartbeats 8000000 in
theorem zws {h : Heap} {mb : Nat} {u : U} {known : Kn} {bl : En} {bs ks ss : Value} (hm : h[mb]? = some (.cells [ks, ss] 0 false)) (hk : Sl h ks 2 (known.map w5)) (hkl : known.length ≤ 10000) (hb : Sl h bs 35 (za5 bl)) (hbl : bl.length < 4611686018427387904) :
    ∃ h', DF FF fo [pt mb, .int .u32 (u.toNat : Int), bs] h = some (pt (h.length + 1), h') ∧ Wd h' (h.length + 1) h.length u (begE known bl known.length) ∧ Pre h h' := by
  have : ∃ v h', DF FF fo [pt mb, .int .u32 (u.toNat : Int), bs] h = some (v, h') ∧ (v = pt (h.length + 1) ∧ Wd h' (h.length + 1) h.length u (begE known bl known.length) ∧ Pre h h') := by
    refine wz zit ?_
    have rm : ∀ L j, Heap.read1 (h ++ L) ⟨mb, j, some 0⟩ = ([ks, ss] : List Value)[j]? := fun L j => xz (y7 L hm)
    have lens : ∀ K, lenO K ks = some (.int .i64 (known.length : Int), K) := fun K => by rw [hk.len, List.length_map]
    have fw : wo [.int .u32 0, .map none] [(0, 1, .int .u32 (u.toNat : Int)), (1, 1, .map (some h.length))] = some [.int .u32 (u.toNat : Int), .map (some h.length)] := by
      rw [wt _ (by simp), ztk _ (by simp), yx]; rfl
    have s0 : BgS h u known bl 0 (h ++ [.map [], .cells [.int .u32 (u.toNat : Int), .map (some h.length)] 0 false]) := ⟨⟨by simp, by simp [begE, enE]⟩, ⟨_, rfl⟩⟩
    simp only [zd6, ya, zb, yb, zn, zc, zo, zf, ze, zd, List.set_cons_succ, List.set_cons_zero, O_mv, yg, fc, zx, zk, wd, y6, yd, z8, List.cons_append, List.nil_append, List.length_cons, List.length_nil, Nat.reduceAdd, Nat.reduceSub, Nat.zero_add, zm, yc, zy, za, w8, xb, z7, zq, zj, zg, zh, List.append_assoc, List.length_append, Nat.add_zero, List.getElem?_cons_zero, eq_self, yf, zs, yk, fy, zen, fw, yf, zs, rm, lens]
    refine bu 0 known.length (BgI h u known bl bs ks) (BgO h u known bl) ?_ ?_ _ ⟨_, junk rfl, s0⟩ ?_
    · rintro k st hk' ⟨K, ⟨j, rfl⟩, e⟩
      have hd : known[k]? = some known[k] := List.getElem?_eq_getElem hk'
      obtain ⟨b', o, v, a1, a2⟩ := (hk.pre e.p).atH (k := k) (by simpa using hk')
      have a2 : Heap.read K ⟨b', o, some v⟩ 2 = some (w5 known[k]) := by rw [a2]; simp
      obtain ⟨d, hdd⟩ : ∃ d, d = known[k] := ⟨_, rfl⟩
      rw [← hdd] at a2 hd
      have h1 : ((k : Int) < (known.length : Int)) = True := by simp; omega
      have rq : ∀ L j, Heap.read1 (K ++ L) ⟨h.length + 1, j, some 0⟩ = ([.int .u32 (u.toNat : Int), .map (some h.length)] : List Value)[j]? := fun L j => xz (e.w.more L).hq
      obtain ⟨H1, hH1⟩ : ∃ H1, H1 = K ++ [AObj.cells (w5 d) 0 false, AObj.cells (wu d.1 d.2 v0) 0 false] := ⟨_, rfl⟩
      have hb1 : Sl H1 bs 35 (za5 bl) := by rw [hH1]; exact (hb.pre e.p).more _
      have q1 := ydr d bl (h := H1) (s := bs) (c := K.length) hb1 hbl (by rw [hH1]; simp)
      rw [hH1] at q1
      obtain ⟨K', w1, e'⟩ := ye7 e hd (w5 d)
      have hp : zou d bl = match idxD d bl with | none => v0 | some i => match bl[i]? with | none => v0 | some p => if d.2 then ⟨p.2.2.s, fun _ => 0#32⟩ else ⟨0#32, p.2.2.r⟩ := by
        unfold zou; rw [zpy]
        cases idxD d bl <;> rfl
      cases hi : idxD d bl with
      | none =>
        rw [hi] at q1 hp
        simp only at q1 hp
        rw [hp] at w1
        simp only [w5] at a2 q1 w1
        simp only [ya, zt, yo, zb, zz, yb, zn, zc, zp, zo, zf, ze, zd, List.set_cons_succ, List.set_cons_zero, O_mv, yy, yg, ye, List.map_cons, List.map_nil, vg, zx, zk, xr, y4, wd, y6, yd, z8, yx, fm, Nat.zero_lt_succ, Nat.reduceLT, vz, wi, List.cons_append, List.nil_append, List.length_cons, List.length_nil, Nat.reduceAdd, Nat.zero_add, zm, yc, zy, za, zi, yq, xb, z7, zl, yu, z6, zq, zj, yr, ym, qg, qy, xd, yh, ve, vk, zu, vp, zr, List.append_assoc, List.length_append, Nat.add_zero, Option.map_some, List.getElem?_cons_zero, List.getElem?_cons_succ, Int.reduceLT, eq_self, yp, wn, decide_true, qe, zg1, zc2, h1, a1, a2, gv, q1, rq, bh, w1, xp (k := k) (by omega)]
        exact ⟨K', junk rfl, e'⟩
      | some i =>
        have hlt := zyu d hi
        have hb0 : bl[i]? = some bl[i] := List.getElem?_eq_getElem hlt
        rw [hi] at q1 hp
        simp only [hb0] at q1 hp
        obtain ⟨b2, o2, v2, r1, r2⟩ := hb1.atH (k := i) (by simpa [za5] using hlt)
        have r2 : Heap.read H1 ⟨b2, o2, some v2⟩ 35 = some (wu bl[i].1 bl[i].2.1 bl[i].2.2) := by rw [r2]; simp [za5]
        have r3 := ya4 r2 (bd_2 bl[i].1 bl[i].2.1 bl[i].2.2)
        have r4 := ybk r2 (i := 3) (m := 32) (by decide)
        rw [zv6] at r4
        rw [hH1] at r3 r4
        have hneg : ((i : Int) < 0) = False := by simp
        cases hd2 : d.2
        · rw [hd2] at w1 hp q1 r3 r4 hH1
          rw [hp] at w1
          simp only [w5, hd2, Bool.false_eq_true, if_false] at a2 q1 w1 r3 r4
          simp only [ya, zt, yo, zb, zz, zw, yb, zn, zc, zp, zo, zf, ze, zd, List.set_cons_succ, List.set_cons_zero, O_mv, yy, yg, ye, List.map_cons, List.map_nil, vg, zx, zk, xr, y4, wd, y6, yd, z8, yx, fm, Nat.zero_lt_succ, Nat.reduceLT, vz, wi, List.cons_append, List.nil_append, List.length_cons, List.length_nil, Nat.reduceAdd, Nat.zero_add, zm, yc, zy, za, zi, yq, xb, z7, zl, yu, z6, zq, zj, yr, ym, qg, qy, xd, yh, ve, vk, zu, vp, zr, List.append_assoc, List.length_append, Nat.add_zero, Option.map_some, List.getElem?_cons_zero, List.getElem?_cons_succ, eq_self, yp, wn, decide_true, decide_false, y9, qe, zg1, zc2, yao, h1, a1, a2, gv, q1, hneg, r1, r4, v0_s, rq, bh, w1, xp (k := k) (by omega)]
          exact ⟨K', junk rfl, e'⟩
        · rw [hd2] at w1 hp q1 r3 r4 hH1
          rw [hp] at w1
          simp only [w5, hd2, if_true] at a2 q1 w1 r3 r4
          simp only [ya, zt, yo, zb, zz, zw, yb, zn, zc, zp, zo, zf, ze, zd, List.set_cons_succ, List.set_cons_zero, O_mv, yy, yg, ye, List.map_cons, List.map_nil, vg, zx, zk, xr, y4, wd, y6, yd, z8, yx, fm, Nat.zero_lt_succ, Nat.reduceLT, vz, wi, List.cons_append, List.nil_append, List.length_cons, List.length_nil, Nat.reduceAdd, Nat.zero_add, zm, yc, zy, za, zi, yq, xb, z7, zl, xc, xx, yu, z6, zq, zj, yr, ym, qg, qy, xd, yh, ve, bd, b9, vl, vk, zu, vp, zr, List.append_assoc, List.length_append, Nat.add_zero, Option.map_some, List.getElem?_cons_zero, List.getElem?_cons_succ, eq_self, yp, wn, decide_true, decide_false, qe, zg1, zc2, zs3, h1, a1, a2, gv, q1, hneg, r1, r3, v0_r, rq, bh, w1, xp (k := k) (by omega)]
          exact ⟨K', junk rfl, e'⟩
    · rintro st ⟨K, ⟨j, rfl⟩, e⟩
      have h1 : ((known.length : Int) < (known.length : Int)) = False := by simp
      simp only [ya, zt, vc, zb, zw, yb, zn, zc, zo, ze, zd, List.set_cons_succ, List.set_cons_zero, yy, yg, wi, zm, yc, za, yz, g7, xm, decide_false, h1, g7]
      exact ⟨K, junk rfl, e⟩
    rintro st ⟨K, ⟨j, rfl⟩, e⟩
    simp only [ya, xf, zb, yb, zn, zc, zo, ze, zd, List.set_cons_succ, List.set_cons_zero, O_mv, zm, yc, za, yj, wh, eq_self, kg]
    exact ⟨trivial, e.w, e.p⟩
  obtain ⟨v, h', hq, rfl, hw, hp⟩ := this
  exact ⟨h', hq, hw, hp⟩
end Go.Proofs.YtljdbheclfaloaaGreatDoor.AM
namespace Go.Proofs.YtljdbheclfaloaaGreatDoor.AM
open Go.RowKit
set_option linter.unusedSimpArgs false
set_option linter.unusedVariables false
set_option maxRecDepth 20000

theorem KC.pre {km : Nat} {h K H : Heap} (p : Pre h K) (k : KC km K H) (hk : h.length ≤ km) : Pre h H :=
  Pre.of (Nat.le_trans p.le k.le) fun b o ho => k.oth b o (p.kept b o ho) (by have := zcd ho; omega)
def knAt (kn : Kn) (l : List Stm) (k : Nat) : Kn := (l.take k).foldl (fun kn s => kn ++ s.given) kn
def enAt (u : U) (env : En) (l : List Stm) (k : Nat) : En := (l.take k).foldl (doE u) env
theorem zq6 : ∀ {l : List Stm} {kn : Kn} {k : Nat} {s : Stm}, zpp kn l → l[k]? = some s → zwm (knAt kn l k) s
  | [], kn, k, s, h, hk => by simp at hk
  | x :: l, kn, 0, s, h, hk => by cases hk; exact h.1
  | x :: l, kn, k + 1, s, h, hk => zq6 (kn := kn ++ x.given) h.2 (by simpa using hk)
theorem zw2 {u : U} : ∀ {l : List Stm} {env : En} {s : Stm} {k : Nat}, l[k]? = some s → zgu u env (l.drop k) = if zyp u env s then zgu u (doE u env s) (l.drop (k + 1)) else some (zvl s) := by
  intro l env s k h
  rw [zb7 h, zgu]
structure HoS (h : Heap) (u : U) (md : Md) (env0 : En) (ss : Value) (k : Nat) (K : Heap) : Prop where
  w : Wd K (h.length + 1) h.length u (enAt u env0 md.l k)
  p : Pre h K
  e : EnI (knAt md.known md.l k) (enAt u env0 md.l k)
theorem zy2 {h : Heap} {u : U} {md : Md} {env0 : En} {ss : Value} {k : Nat} {K : Heap} {rows : List (List Value)} {T : Nat → Prop} (hs : Sl h ss 4 rows) (sp : StsP h T rows md.l) (ok : zpp md.known md.l) (e : HoS h u md env0 ss k K) {s : Stm} (hk : md.l[k]? = some s) :
    ∃ row b' o v K', row.length = 4 ∧ row[3]? = some (str (zvl s)) ∧ (∀ H', rowO H' 4 ss (.int .i64 (k : Int)) = some (.pointer (some ⟨b', o, some v⟩), H')) ∧ Heap.read K ⟨b', o, some v⟩ 4 = some row ∧
      DF FF qj [pt (h.length + 1), agg row] (K ++ [.cells row 0 false]) = some (.bool (zyp u (enAt u env0 md.l k) s), K') ∧ HoS h u md env0 ss (k + 1) K' ∧ K'[K.length]? = some (.cells row 0 false) := by
  obtain ⟨row, Tk, hr, sk, _⟩ := sp.focus hk
  have hlt := (List.getElem?_eq_some_iff.1 hr).1
  obtain ⟨b', o, v, a1, a2⟩ := (hs.pre e.p).atH (k := k) hlt
  have hr' : rows[k] = row := (List.getElem?_eq_some_iff.1 hr).2
  rw [hr'] at a2
  have h4 : row.length = 4 := hs.2 row (List.mem_of_getElem? hr)
  have h3 : row[3]? = some (str (zvl s)) := by
    cases s with
    | lets rc gs => obtain ⟨_, _, _, rfl, _⟩ := sk; rfl
    | chk c x a => obtain ⟨_, rfl, _⟩ := sk; rfl
  have skK : StP (K ++ [AObj.cells row 0 false]) Tk row s := sk.keep fun b o _ ho => y7 _ (e.p.kept b o ho)
  obtain ⟨K', q1, w1, k1⟩ := yfs (e.w.more [.cells row 0 false]) skK (zq6 ok hk) e.e
  have e1 : enAt u env0 md.l (k + 1) = doE u (enAt u env0 md.l k) s := zao hk _ _
  have e2 : knAt md.known md.l (k + 1) = knAt md.known md.l k ++ s.given := zao hk _ _
  exact ⟨row, b', o, v, K', h4, h3, a1, a2, q1, ⟨by rw [e1]; exact w1, KC.pre (e.p.more _) k1 (Nat.le_refl _), by rw [e1, e2]; exact ye9 (zq6 ok hk) e.e⟩, k1.keep _ _ _ _ (by simp)⟩
theorem ydb {h K : Heap} (p : Pre h K) (b : Bool) (w : Bys) : AM.finish h (tup [.bool b, str w]) K = h := by obtain ⟨L, rfl⟩ := p; exact g8 h L rfl
def zwi : Option Bys → Value
  | none => tup [.bool true, str []]
  | some w => tup [.bool false, str w]
def HoI (h : Heap) (u : U) (md : Md) (env0 : En) (ss : Value) (k : Nat) (st : St) : Prop := ∃ K, (∃ j : Nat → Value, st = ⟨[j 0, j 1, j 2, j 3, j 4, j 5, j 6, j 7, pt (h.length + 1), j 9, j 10, j 11, j 12, j 13, j 14, j 15, j 16, j 17, ss, .int .i64 (md.l.length : Int), .int .i64 (k : Int), j 21, j 22, j 23, j 24, j 25, j 26, j 27, j 28, j 29, j 30], K⟩) ∧ HoS h u md env0 ss k K ∧ zgu u env0 md.l = zgu u (enAt u env0 md.l k) (md.l.drop k)
theorem zvx {known : Kn} {bl : En} : ∀ k, k ≤ known.length → (known.map (·.1)).Nodup → KdOk (known.take k) (begE known bl k) ∧ S0 (begE known bl k) := by
  intro k
  induction k with
  | zero => intro _ _; exact ⟨fun w => rfl, fun w v h => by simp [begE, jl] at h⟩
  | succ k ih =>
    intro hk hn
    obtain ⟨a, z⟩ := ih (by omega) hn
    have hd : known[k]? = some known[k] := List.getElem?_eq_getElem (by omega)
    have e : begE known bl (k + 1) = setE known[k].1 known[k].2 (zou known[k] bl) (begE known bl k) := zao hd _ _
    rw [e, List.take_add_one, hd]
    simp only [Option.toList_some]
    have hnew : jk (known.take k) known[k].1 = none := by
      rw [zgc, Option.map_eq_none_iff, List.find?_eq_none]
      intro p hp he
      have he : known[k].1 = p.1 := eq_of_beq he
      obtain ⟨i, hi, hip⟩ := List.getElem_of_mem hp
      rw [List.getElem_take] at hip
      have hik : i < k := by simp at hi; omega
      have := (List.nodup_iff_pairwise_ne.1 hn)
      rw [List.pairwise_iff_getElem] at this
      have := this i k (by simp; omega) (by simp; omega) hik
      simp only [List.getElem_map] at this
      rw [hip] at this
      exact this he.symm
    refine ⟨fun w => ?_, fun w v h => ?_⟩
    · rw [pd, gu]
      by_cases hw : w = known[k].1
      · subst hw
        rw [if_pos (by simp), hnew]; simp [jk]
      · rw [if_neg (by simpa using hw), a w]
        have : jk [known[k]] w = none := by rw [jk, if_neg (by simpa using hw)]; rfl
        rw [this, Option.or_none]
    · rw [pd] at h
      by_cases hw : w = known[k].1
      · rw [if_pos (by simpa using hw)] at h
        simp only [Option.some.injEq, Prod.mk.injEq] at h
        obtain ⟨h1, rfl⟩ := h
        unfold zou
        split
        · rfl
        · rw [h1]; rfl
      · rw [if_neg (by simpa using hw)] at h; exact z w v h
theorem zfz : ∀ (ns kn : Kn), (kn.map (·.1)).Nodup → ((pi kn ns).map (·.1)).Nodup
  | [], kn, h => by rw [pi]; exact h
  | d :: r, kn, h => by
    rw [pi]
    split
    · exact zfz r kn h
    · rename_i hd
      refine zfz r _ ?_
      rw [List.map_append, List.map_singleton]
      refine List.nodup_append.2 ⟨h, by simp, fun a ha b hb => ?_⟩
      simp at hb
      subst hb
      rintro rfl
      obtain ⟨p, hp, he⟩ := List.mem_map.1 ha
      apply hd
      rw [zgc, Option.isSome_map, List.find?_isSome]
      exact ⟨p, hp, by simp [he]⟩
structure MdOk (md : Md) : Prop where
  nd : (md.known.map (·.1)).Nodup
  ok : zpp md.known md.l
def env0 (md : Md) (bl : En) : En := begE md.known bl md.known.length
theorem zye {md : Md} (ok : MdOk md) (bl : En) : EnI md.known (env0 md bl) := by
  obtain ⟨a, z⟩ := zvx (bl := bl) md.known.length (Nat.le_refl _) ok.nd
  rw [List.take_length] at a
  exact ⟨a, z⟩
set_option maxHeartbeats 4000000 in
theorem zkx {h : Heap} {S : Nat → Prop} {mb : Nat} {md : Md} {u : U} {bl : En} {bs : Value} (M : ModP h S mb md) (ok : MdOk md) (hb : Sl h bs 35 (za5 bl)) (hbl : bl.length < 4611686018427387904) :
    DF FF fj [pt mb, .int .u32 (u.toNat : Int), bs] h = some (zwi (zgu u (env0 md bl) md.l), h) := by
  obtain ⟨⟨ks, ss, rows, T, hm, hk, hs, sp, _⟩, _, hlen⟩ := M
  have : ∃ v h', DF FF fj [pt mb, .int .u32 (u.toNat : Int), bs] h = some (v, h') ∧ (v = zwi (zgu u (env0 md bl) md.l) ∧ h' = h) := by
    refine wz zja ?_
    obtain ⟨H, q0, w0, p0⟩ := zws (u := u) hm hk hlen.2.1 hb hbl
    have lens : ∀ K, lenO K ss = some (.int .i64 (md.l.length : Int), K) := fun K => by rw [hs.len, (sp.len).1]
    have rm : ∀ j, Heap.read1 H ⟨mb, j, some 0⟩ = ([ks, ss] : List Value)[j]? := fun j => xz (p0.kept _ _ hm)
    simp only [zd9, ya, zb, yb, zn, zc, zo, zf, ze, zd, List.set_cons_succ, List.set_cons_zero, O_mv, yg, ye, List.map_cons, List.map_nil, fc, zx, zk, List.cons_append, List.nil_append, List.length_cons, List.length_nil, Nat.reduceAdd, Nat.reduceSub, Nat.zero_add, zm, yc, zy, za, xb, z7, zq, zj, zg, zh, List.getElem?_cons_zero, List.getElem?_cons_succ, yk, q0, rm, lens]
    refine p7 md.l.length (HoI h u md (env0 md bl) ss) ?_ ?_ _ ⟨H, junk rfl, ⟨w0, p0, zye ok bl⟩, rfl⟩
    · rintro k st hk' ⟨K, ⟨j, rfl⟩, e, he⟩
      have hd : md.l[k]? = some md.l[k] := List.getElem?_eq_getElem hk'
      obtain ⟨row, b', o, v, K', h4, h3, a1, a2, q1, e', hrow⟩ := zy2 hs sp ok.ok e hd
      have h1 : ((k : Int) < (md.l.length : Int)) = True := by simp; omega
      rw [zw2 hd] at he
      cases hh : zyp u (enAt u (env0 md bl) md.l k) md.l[k]
      · rw [hh] at q1 he
        have rr : Heap.read1 K' ⟨K.length, 3, some 0⟩ = some (str (zvl md.l[k])) := by rw [xz hrow, h3]
        simp only [ya, zt, xf, yo, zb, zz, yb, zn, zc, zp, zo, zf, ze, zd, List.set_cons_succ, List.set_cons_zero, O_mv, yy, yg, O_un, ye, List.map_cons, List.map_nil, vg, zx, zk, xr, y4, wi, v8, List.length_cons, List.length_nil, Nat.reduceAdd, Nat.zero_add, Bool.not_false, zm, yc, zy, za, xa, wg, yq, xb, z7, zl, yu, z6, xk, xd, yh, zu, zr, Option.map_some, zff, eq_self, zeb, decide_true, h1, a1, a2, h4, q1, rr, ydb e'.p]
        rw [he]
        exact ⟨rfl, trivial⟩
      · rw [hh] at q1 he
        simp only [ya, zt, yo, zb, zz, zw, yb, zn, zc, zp, zo, zf, ze, zd, List.set_cons_succ, List.set_cons_zero, O_mv, yy, yg, O_un, ye, List.map_cons, List.map_nil, vg, xr, y4, vz, wi, v8, List.length_cons, List.length_nil, Nat.reduceAdd, Nat.zero_add, Bool.not_true, zm, yc, zy, za, zi, yq, zl, yu, z6, xk, xd, yh, zu, zr, Option.map_some, eq_self, yp, decide_true, h1, a1, a2, h4, q1, xp (k := k) (by omega)]
        have e1 : enAt u (env0 md bl) md.l (k + 1) = doE u (enAt u (env0 md bl) md.l k) md.l[k] := zao hd _ _
        exact ⟨K', junk rfl, e', by rw [he, e1]; rfl⟩
    · rintro st ⟨K, ⟨j, rfl⟩, e, he⟩
      have h1 : ((md.l.length : Int) < (md.l.length : Int)) = False := by simp
      simp only [ya, zt, vc, xf, zb, zw, yb, zn, zc, zo, zf, ze, zd, List.set_cons_succ, List.set_cons_zero, O_mv, yy, yg, wi, zm, yc, za, yz, yj, zff, eq_self, xm, decide_false, h1, ydb e.p]
      rw [he, List.drop_length]
      exact ⟨rfl, trivial⟩
  obtain ⟨v, h', hq, rfl, rfl⟩ := this
  exact hq
def VaI (h h1 : Heap) (u : U) (md : Md) (env0 : En) (ss : Value) (w : Bys) (k : Nat) (st : St) : Prop := ∃ K, (∃ j : Nat → Value, st = ⟨[j 0, str w, j 2, j 3, j 4, j 5, j 6, j 7, .pointer (some ⟨h.length, 0, some 0⟩), j 9, pt (h.length + 1 + 1), j 11, j 12, j 13, j 14, j 15, j 16, j 17, j 18, j 19, j 20, j 21, ss, .int .i64 (md.l.length : Int), .int .i64 (k : Int), j 25, j 26, j 27, j 28, j 29, j 30, j 31, j 32, j 33, j 34, j 35, j 36, j 37, j 38, j 39, j 40, j 41, j 42, j 43, j 44], K⟩) ∧ HoS h1 u md env0 ss k K
def VaO (h h1 : Heap) (u : U) (md : Md) (env0 : En) (ss : Value) (w : Bys) (st : St) : Prop := ∃ K, (∃ j : Nat → Value, st = ⟨[j 0, str w, j 2, j 3, j 4, j 5, j 6, j 7, .pointer (some ⟨h.length, 0, some 0⟩), j 9, pt (h.length + 1 + 1), j 11, j 12, j 13, j 14, j 15, j 16, j 17, j 18, j 19, j 20, j 21, j 22, j 23, j 24, j 25, j 26, j 27, j 28, j 29, j 30, j 31, j 32, j 33, j 34, j 35, j 36, j 37, j 38, j 39, j 40, j 41, j 42, j 43, j 44], K⟩) ∧ HoS h1 u md env0 ss md.l.length K
def zls (env : En) (w : Bys) : Value := match jl w env with
  | none => tup [agg (wu [] false v0), .int .i64 40]
  | some p => tup [agg (wu w p.1 p.2), .int .i64 0]
theorem ydz (u : U) (env : En) (l : List Stm) : enAt u env l l.length = envM u env l := by unfold enAt envM; rw [List.take_length]
theorem ycy (h : Heap) {K : Heap} (p : Pre h K) (n : Bys) (b : Bool) (v : Vv) (i : Int) : AM.finish h (tup [agg (wu n b v), .int .i64 i]) K = h := by
  obtain ⟨L, rfl⟩ := p
  refine g8 h L ?_
  have : plain (agg (wu n b v)) = true := zt9 n b v
  show ([agg (wu n b v), Value.int .i64 i].all plain) = true
  rw [List.all_cons, this]; rfl
set_option maxHeartbeats 4000000 in
theorem zr9 {h : Heap} {S : Nat → Prop} {mb : Nat} {md : Md} {u : U} {bl : En} {bs : Value} (M : ModP h S mb md) (ok : MdOk md) (hb : Sl h bs 35 (za5 bl)) (hbl : bl.length < 4611686018427387904) (w : Bys) :
    DF FF gh [pt mb, str w, .int .u32 (u.toNat : Int), bs] h = some (zls (envM u (env0 md bl) md.l) w, h) := by
  obtain ⟨⟨ks, ss, rows, T, hm, hk, hs, sp, _⟩, _, hlen⟩ := M
  have : ∃ v h', DF FF gh [pt mb, str w, .int .u32 (u.toNat : Int), bs] h = some (v, h') ∧ (v = zls (envM u (env0 md bl) md.l) w ∧ h' = h) := by
    refine wz ziq ?_
    obtain ⟨h1, hh1⟩ : ∃ h1, h1 = h ++ [AObj.cells (wu [] false v0) 0 false] := ⟨_, rfl⟩
    have p1 : Pre h h1 := ⟨_, hh1⟩
    have l1 : h1.length = h.length + 1 := by rw [hh1]; simp
    have hm1 := p1.kept _ _ hm
    have hs1 : Sl h1 ss 4 rows := hs.pre p1
    have sp1 : StsP h1 T rows md.l := sp.keep fun b o _ ho => p1.kept b o ho
    obtain ⟨H, q0, w0, p0⟩ := zws (u := u) hm1 (hk.pre p1) hlen.2.1 (hb.pre p1) hbl
    have lens : ∀ K, lenO K ss = some (.int .i64 (md.l.length : Int), K) := fun K => by rw [hs.len, (sp.len).1]
    have rm : ∀ j, Heap.read1 H ⟨mb, j, some 0⟩ = ([ks, ss] : List Value)[j]? := fun j => xz (p0.kept _ _ hm1)
    have z1 : h1[h.length]? = some (.cells (wu [] false v0) 0 false) := by rw [hh1]; simp
    rw [l1] at q0 w0
    simp only [zdw, ya, zb, yb, zn, zc, zo, zf, ze, zd, List.set_cons_succ, List.set_cons_zero, O_mv, yg, ye, List.map_cons, List.map_nil, fc, zx, zk, List.cons_append, List.nil_append, List.length_cons, List.length_nil, Nat.reduceAdd, Nat.reduceSub, Nat.zero_add, zm, yc, zy, za, yq, xb, z7, zq, zj, zg, zh, List.getElem?_cons_zero, List.getElem?_cons_succ, yk, fy, ← hh1, q0, rm, lens]
    refine bu 0 md.l.length (VaI h h1 u md (env0 md bl) ss w) (VaO h h1 u md (env0 md bl) ss w) ?_ ?_ _ ⟨H, junk rfl, ⟨by rw [l1]; exact w0, p0, zye ok bl⟩⟩ ?_
    · rintro k st hk' ⟨K, ⟨j, rfl⟩, e⟩
      have hd : md.l[k]? = some md.l[k] := List.getElem?_eq_getElem hk'
      obtain ⟨row, b', o, v, K', h4, h3, a1, a2, q1, e', hrow⟩ := zy2 hs1 sp1 ok.ok e hd
      rw [l1] at q1
      have hl : ((k : Int) < (md.l.length : Int)) = True := by simp; omega
      simp only [ya, zt, yo, zb, zz, yb, zn, zc, zp, zo, zf, ze, zd, List.set_cons_succ, List.set_cons_zero, O_mv, yy, yg, ye, List.map_cons, List.map_nil, vg, xr, y4, vz, wi, List.length_cons, List.length_nil, Nat.reduceAdd, Nat.zero_add, zm, yc, zy, za, zi, yq, zl, yu, z6, xk, xd, yh, zu, zr, Option.map_some, eq_self, yp, decide_true, hl, a1, a2, h4, q1, xp (k := k) (by omega)]
      exact ⟨K', junk rfl, e'⟩
    · rintro st ⟨K, ⟨j, rfl⟩, e⟩
      have hl : ((md.l.length : Int) < (md.l.length : Int)) = False := by simp
      simp only [ya, zt, vc, zb, zw, yb, zn, zc, zo, ze, zd, List.set_cons_succ, List.set_cons_zero, yy, yg, wi, zm, yc, za, yz, g7, xm, decide_false, hl, g7]
      exact ⟨K, junk rfl, e⟩
    rintro st ⟨K, ⟨j, rfl⟩, e⟩
    have we := e.w
    rw [ydz, l1] at we
    have pK : Pre h K := p1.trans e.p
    have zK : ∀ L, (K ++ L)[h.length]? = some (.cells (wu [] false v0) 0 false) := fun L => y7 L (e.p.kept _ _ z1)
    have rq : ∀ L j, Heap.read1 (K ++ L) ⟨h.length + 1 + 1, j, some 0⟩ = ([.int .u32 (u.toNat : Int), .map (some (h.length + 1))] : List Value)[j]? := fun L j => xz (we.more L).hq
    have rq0 : ∀ j, Heap.read1 K ⟨h.length + 1 + 1, j, some 0⟩ = ([.int .u32 (u.toNat : Int), .map (some (h.length + 1))] : List Value)[j]? := fun j => xz we.hq
    have lk := zf5 K we.hk (agg (wu [] false v0)) true (w := w) (zse _ w)
    have hlt : h.length < K.length := zcd (e.p.kept _ _ z1)
    have wr : ∀ L n b v, Heap.write (K ++ L) ⟨h.length, 0, some 0⟩ (wu n b v) = some ((K ++ L).set h.length (.cells (wu n b v) 0 false)) := fun L n b v => zcx (zK L) (by rw [qe, qe])
    have rd : ∀ L n b v, Heap.read ((K ++ L).set h.length (.cells (wu n b v) 0 false)) ⟨h.length, 0, some 0⟩ 35 = some (wu n b v) := fun L n b v => fi (by simp; omega) (qe _ _ _)
    have pf : ∀ L n b v, Pre h ((K ++ L).set h.length (.cells (wu n b v) 0 false)) := fun L n b v => (pK.more L).set (Nat.le_refl _) _
    cases hl : jl w (envM u (env0 md bl) md.l) with
    | none =>
      simp only [hl, Option.map_none, zg0, if_true] at lk
      simp only [ya, zt, xf, zb, zz, yb, zn, zc, zp, zo, zf, ze, zd, List.set_cons_succ, List.set_cons_zero, O_mv, yg, O_un, zx, zk, wd, y6, yd, yx, v8, Nat.zero_add, Bool.not_false, zm, yc, za, xa, yj, yq, xb, z7, xh, y8, zl, yu, z6, zq, zj, yh, zu, zr, List.getElem?_cons_zero, List.getElem?_cons_succ, zik, pa, zar, eq_self, qe, rq0, k8, lk, wr, rd]
      simp only [zls, hl, ycy _ (pf _ _ _ _)]
      exact ⟨trivial, trivial⟩
    | some p =>
      simp only [hl, Option.map_some, zg0, if_true] at lk
      simp only [ya, zt, xf, yo, zb, zw, yb, zn, zc, zp, zo, zf, ze, zd, List.set_cons_succ, List.set_cons_zero, O_mv, yg, O_un, zx, zk, xr, y4, v8, Nat.zero_add, Bool.not_true, zm, yc, za, yj, yq, xb, z7, xh, y8, zl, yu, z6, zq, zj, xk, xd, yh, zu, zr, Option.map_some, List.getElem?_cons_zero, List.getElem?_cons_succ, zik, pa, zar, eq_self, qe, rq0, k8, lk, wr, rd]
      simp only [zls, hl, ycy _ (pf _ _ _ _)]
      exact ⟨trivial, trivial⟩
  obtain ⟨v, h', hq, rfl, rfl⟩ := this
  exact hq
end Go.Proofs.YtljdbheclfaloaaGreatDoor.AM
namespace Go.Proofs.YtljdbheclfaloaaGreatDoor.AM
open Go.RowKit
set_option linter.unusedSimpArgs false
set_option linter.unusedVariables false

def yge (t : Tok) : Prop := ∃ (r : List UInt8) (k : Nat), zgq r = .no ∧ zf3 r = .word t.kind k t.n ∧ t.text = r.take k
def sumT : List Tok → Nat
  | [] => 0
  | t :: m => t.text.length + sumT m
theorem yfv {r : Res} {a m : List Tok} (h : r.pre a = .ok m) : ∃ m', r = .ok m' ∧ m = a ++ m' := by
  cases r with
  | ok m' => cases h; exact ⟨m', rfl, rfl⟩
  | bad c x => cases h
theorem zl1 : ∀ (n : Nat) (s : List UInt8) (a : Nat) (m : List Tok), s.length ≤ n → p8 s a = .ok m → (∀ t ∈ m, yge t ∧ 1 ≤ t.text.length) ∧ sumT m ≤ s.length
  | 0, s, a, m, hn, h => by
    have : s = [] := List.eq_nil_of_length_eq_zero (by omega)
    subst this
    rw [zk3] at h; cases h
    exact ⟨fun t ht => (List.not_mem_nil ht).elim, by simp [sumT]⟩
  | n + 1, s, a, m, hn, h => by
    by_cases hs : s = []
    · subst hs; rw [zk3] at h; cases h
      exact ⟨fun t ht => (List.not_mem_nil ht).elim, by simp [sumT]⟩
    · rw [zh3 hs] at h
      cases hk : zgq s with
      | go k =>
        rw [hk] at h
        have hp := zh0 hk
        obtain ⟨h1, h2⟩ := zl1 n _ _ m (by simp; omega) h
        simp only [List.length_drop] at h2
        exact ⟨h1, by omega⟩
      | err => rw [hk] at h; cases h
      | no =>
        rw [hk] at h
        cases hw : zf3 s with
        | bad c => rw [hw] at h; cases h
        | word kd k x =>
          rw [hw] at h
          have hp := zfx hw
          obtain ⟨m', h1, rfl⟩ := yfv h
          obtain ⟨h2, h3⟩ := zl1 n _ _ m' (by simp; omega) h1
          simp only [List.length_drop] at h3
          refine ⟨fun t ht => ?_, ?_⟩
          · rcases List.mem_append.1 ht with ht | ht
            · simp at ht; subst ht
              exact ⟨⟨s, k, hk, hw, rfl⟩, by simp; omega⟩
            · exact h2 t ht
          · simp [sumT]; omega
theorem zl2 : ∀ m : List Tok, (∀ t ∈ m, 1 ≤ t.text.length) → m.length ≤ sumT m
  | [], _ => by simp
  | t :: m, h => by
    have := zl2 m fun x hx => h x (by simp [hx])
    have := h t (by simp)
    simp [sumT]; omega
/-! Where words stand. -/
end Go.Proofs.YtljdbheclfaloaaGreatDoor.AM
namespace Go.Proofs.YtljdbheclfaloaaGreatDoor.AM
open Go.RowKit
set_option linter.unusedSimpArgs false
set_option linter.unusedVariables false
set_option maxRecDepth 20000

theorem zmj {e : Nat} : ∀ {k : Nat} {ts r : List Tok} {l : List Stm}, bn e k ts = .ok l r → ∀ rc gs, Stm.lets rc gs ∈ l → gs.length ≤ ts.length
  | 0, ts, r, l, h, rc, gs, hm => by rw [bn] at h; cases h; cases hm
  | k + 1, [], r, l, h, rc, gs, hm => by rw [bn] at h; cases h; cases hm
  | k + 1, t :: ts, r, l, h, rc, gs, hm => by
    rw [bn] at h
    split at h
    · cases h
    · rename_i s r1 hs
      split at h
      · cases h
      · rename_i l2 r2 hl
        cases h
        have q := zfh hs
        rcases List.mem_cons.1 hm with hm | hm
        · have := q.2 rc gs hm.symm; simp only [List.length_cons]; omega
        · have := zmj hl rc gs hm; simp only [List.length_cons]; omega
theorem ztt {text : Bys} {names : Kn} {md : Md} (h : zb4 text names = .ok md) : MdOk md ∧ text.length ≤ 4096 ∧ md.known = pi [] names ∧ ∃ ts l, p8 text 0 = .ok ts ∧ zmy text.length ts = .ok l [] ∧ chkM (pi [] names) 0 l = .ok md.l := by
  unfold zb4 at h
  split at h
  · cases h
  · rename_i hn
    split at h
    · cases h
    · rename_i ts hs
      split at h
      · cases h
      · rename_i l r hl
        split at h
        · cases h
        · rename_i l' hk
          cases h
          have g := zl1 text.length text 0 ts (Nat.le_refl _) hs
          have lt := zl2 ts fun t ht => (g.1 t ht).2
          have hr : r = [] := by
            have key : ∀ (k : Nat) (ts : List Tok) (l : List Stm) (r : List Tok), ts.length ≤ k → bn text.length k ts = .ok l r → r = [] := by
              intro k
              induction k with
              | zero => intro ts l r hk h; rw [bn] at h; cases h; exact List.eq_nil_of_length_eq_zero (by omega)
              | succ k ih =>
                intro ts l r hk h
                cases ts with
                | nil => rw [bn] at h; cases h; rfl
                | cons t ts =>
                  rw [bn] at h
                  split at h
                  · cases h
                  · rename_i s r1 hs1
                    split at h
                    · cases h
                    · rename_i l2 r2 hl2
                      cases h
                      exact ih _ _ _ (by have := (zfh hs1).1; simp at hk; omega) hl2
            exact key _ _ _ _ (Nat.le_refl _) hl
          subst hr
          exact ⟨⟨zfz names [] (by simp), zzf hk fun rc gs hm => by have := zmj hl rc gs hm; omega⟩, by omega, rfl, ts, l, hs, hl, hk⟩
def ybq : Bys := [108, 101, 116, 32, 116, 32, 61, 32, 114, 32, 59, 32, 114, 32, 97, 99, 121, 99, 108, 105, 99, 32, 116, 32, 97, 115, 32, 103, 111, 111, 100]
def nAble : Kn := [([114], false), ([87], true)]
def mdOf : CR Md → Md
  | .ok m => m
  | .bad _ _ => ⟨[], []⟩
def mAble : Md := mdOf (zb4 ybq nAble)
theorem znk : zb4 ybq nAble = .ok mAble := by kernel_rfl
theorem zq4 : zb4 [97, 99, 121, 99, 108, 105, 99, 32, 87] nAble = .bad 41 8 := by kernel_rfl
def r2 (n : Nat) : Nat → U := fun k => if k = 0 then BitVec.ofNat 32 n else 0#32
def zr7 (n : Nat) : En := [([114], false, ⟨0#32, r2 n⟩)]
theorem zvb : zgu 3#32 (env0 mAble (zr7 2)) mAble.l = none := by kernel_rfl
theorem zrw : zgu 3#32 (env0 mAble (zr7 1)) mAble.l = some [103, 111, 111, 100] := by kernel_rfl
theorem yfn : (relV fun _ => 0#32).set 0 (.int .u32 2) = relV (r2 2) := by kernel_rfl
theorem yff : (relV fun _ => 0#32).set 0 (.int .u32 1) = relV (r2 1) := by kernel_rfl
theorem zug (w : Bys) (b : Bool) (v : Vv) (r : Nat → U) : wo (wu w b v) [(3, 32, agg (relV r))] = some (wu w b ⟨v.s, r⟩) := by
  have e : ∀ (x : Vv), wu w b x = [str w, .bool b, .int .u32 (x.s.toNat : Int)] ++ relV x.r ++ [] := fun x => by rw [List.append_nil]; rfl
  rw [e, vx (i := 3) (y9 r) rfl (y9 _), yx, e]
theorem zze (a : Bys) (b : Bool) (v : Vv) : wo (wu [] false v0) [(0, 35, agg (wu a b v))] = some (wu a b v) := by
  have := zk0 (qe [] false v0) (qe a b v)
  simpa [fq] using this
theorem zyx (a1 a2 a3 a4 a5 : Bys) (b1 b2 b3 b4 b5 : Bool) (v1 v2 v3 v4 v5 : Vv) : wo (wu [] false v0 ++ (wu [] false v0 ++ (wu [] false v0 ++ (wu [] false v0 ++ wu [] false v0)))) [(0, 35, agg (wu a1 b1 v1)), (35, 35, agg (wu a2 b2 v2)), (70, 35, agg (wu a3 b3 v3)), (105, 35, agg (wu a4 b4 v4)), (140, 35, agg (wu a5 b5 v5))] =
    some (wu a1 b1 v1 ++ (wu a2 b2 v2 ++ (wu a3 b3 v3 ++ (wu a4 b4 v4 ++ wu a5 b5 v5)))) := by
  have z : (wu [] false v0).length = 35 := qe _ _ _
  generalize wu [] false v0 = z0 at *
  have e : z0 ++ (z0 ++ (z0 ++ (z0 ++ z0))) = [] ++ z0 ++ (z0 ++ z0 ++ z0 ++ z0) := by simp
  rw [e, vx (i := 0) (qe _ _ _) rfl z]
  have e : ∀ x : List Value, [] ++ x ++ (z0 ++ z0 ++ z0 ++ z0) = x ++ z0 ++ (z0 ++ z0 ++ z0) := fun x => by simp
  rw [e, vx (qe _ _ _) (qe _ _ _) z]
  have e : ∀ x y : List Value, x ++ y ++ (z0 ++ z0 ++ z0) = (x ++ y) ++ z0 ++ (z0 ++ z0) := fun x y => by simp
  rw [e, vx (qe _ _ _) (by simp [qe]) z]
  have e : ∀ x y w : List Value, x ++ y ++ w ++ (z0 ++ z0) = (x ++ y ++ w) ++ z0 ++ z0 := fun x y w => by simp
  rw [e, vx (qe _ _ _) (by simp [qe]) z]
  have e : ∀ x y w t : List Value, x ++ y ++ w ++ t ++ z0 = (x ++ y ++ w ++ t) ++ z0 ++ [] := fun x y w t => by simp
  rw [e, vx (qe _ _ _) (by simp [qe]) z, yx]
  simp
set_option maxHeartbeats 4000000 in
theorem yfi {h : Heap} (g : Gl h) : DF FF bf [] h = some (.bool true, h) := by
  have : ∃ v h', DF FF bf [] h = some (v, h') ∧ (v = .bool true ∧ h' = h) := by
    refine wz zhd ?_
    have f1 : wo [str [], Value.bool false, str [], Value.bool false] [(0, 2, agg [str [114], Value.bool false]), (2, 2, agg [str [87], Value.bool true])] = some [str [114], Value.bool false, str [87], Value.bool true] := by rfl
    obtain ⟨H, hH⟩ : ∃ H, H = h ++ [AObj.cells [str [114], Value.bool false, str [87], Value.bool true] 0 false] := ⟨_, rfl⟩
    have sl : Sl H (.slice (some ⟨h.length, 0, some 0⟩) 2 2) 2 (nAble.map w5) := by
      rw [hH]; exact Sl.last (rows := nAble.map w5) (c := 2) h rfl rfl (by intro r hr; simp only [nAble, List.map_cons, List.map_nil, List.mem_cons, List.not_mem_nil, or_false] at hr; rcases hr with rfl | rfl <;> rfl) 0 false
    have p0 : Pre h H := ⟨_, hH⟩
    obtain ⟨v1, h1, q1, r1, p1⟩ := zg4 ybq nAble _ (g.pre p0) sl (by decide)
    rw [znk] at r1
    obtain ⟨mb, rfl, M⟩ := r1
    obtain ⟨v2, h2, q2, r2', p2⟩ := zg4 [97, 99, 121, 99, 108, 105, 99, 32, 87] nAble _ ((g.pre p0).pre p1) (sl.pre p1) (by decide)
    rw [zq4] at r2'
    obtain ⟨rfl, rfl, _⟩ := r2'
    have ok := (ztt znk).1
    have hb : ∀ (L : Heap) (n : Nat), Sl (h2 ++ L ++ [AObj.cells (wu [114] false ⟨0#32, r2 n⟩) 0 false]) (.slice (some ⟨(h2 ++ L).length, 0, some 0⟩) 1 35) 35 (za5 (zr7 n)) := fun L n => Sl.last (rows := [wu [114] false ⟨0#32, r2 n⟩]) (c := 35) _ (by simp) rfl (by intro r hr; rw [List.mem_singleton] at hr; subst hr; exact qe _ _ _) 0 false
    have w1 := zkx (u := 3#32) (bs := .slice (some ⟨(h2 ++ []).length, 0, some 0⟩) 1 35) (M.keep fun b o _ ho => y7 ([] ++ [AObj.cells (wu [114] false ⟨0#32, r2 2⟩) 0 false]) ho) ok (by have := hb [] 2; rwa [List.append_assoc] at this) (by simp [zr7] : (zr7 _).length < _)
    have w2 := zkx (u := 3#32) (bs := .slice (some ⟨(h2 ++ [AObj.cells (wu [114] false ⟨0#32, r2 2⟩) 0 false]).length, 0, some 0⟩) 1 35) (M.keep fun b o _ ho => y7 ([AObj.cells (wu [114] false ⟨0#32, r2 2⟩) 0 false] ++ [AObj.cells (wu [114] false ⟨0#32, r2 1⟩) 0 false]) ho) ok (by have := hb [AObj.cells (wu [114] false ⟨0#32, r2 2⟩) 0 false] 1; rwa [List.append_assoc] at this) (by simp [zr7] : (zr7 _).length < _)
    rw [zvb] at w1
    rw [zrw] at w2
    obtain ⟨v3, h3, q3, o3, p3⟩ := zqv (M.keep fun b o _ ho => y7 ([AObj.cells (wu [114] false ⟨0#32, r2 2⟩) 0 false] ++ [AObj.cells (wu [114] false ⟨0#32, r2 1⟩) 0 false]) ho)
    obtain ⟨v4, h4, q4, o4, p4⟩ := zv3 (M.keep fun b o _ ho => p3.kept b o (y7 ([AObj.cells (wu [114] false ⟨0#32, r2 2⟩) 0 false] ++ [AObj.cells (wu [114] false ⟨0#32, r2 1⟩) 0 false]) ho))
    have l3 : ((((zc0 mAble.l).map wRow).length : Nat) : Int) = 1 := by kernel_rfl
    have l4 : ((((zds mAble.l).map w5).length : Nat) : Int) = 1 := by kernel_rfl
    have l3' := fun K => o3.len K
    have l4' := fun K => o4.len K
    rw [l3] at l3'
    rw [l4] at l4'
    have e3 : ((3#32 : U).toNat : Int) = 3 := by rfl
    simp only [List.append_nil, List.nil_append, List.length_append, List.length_singleton, List.singleton_append, e3, zwi] at w1 w2 q3 q4
    unfold ybq at q1
    simp only [zcp, ya, zt, xf, yo, zb, zw, yb, zn, yi, zc, xy, y0, zo, zf, ze, zd, List.set_cons_succ, List.set_cons_zero, O_mv, y3, xj, yy, yg, O_un, ye, List.map_cons, List.map_nil, fc, vd, wd, w6, y6, yd, z8, xe, xg, yx, wt, fm, Nat.lt_add_one, Nat.zero_lt_succ, ko, zoc, v8, List.cons_append, List.nil_append, List.length_cons, List.length_nil, Nat.reduceAdd, Nat.reduceSub, Nat.zero_add, Bool.not_false, zm, yc, za, slc, xh, y8, zg, zh, List.append_assoc, List.length_append, List.append_nil, List.getElem?_cons_zero, List.getElem?_cons_succ, wh, Bool.bne_false, beq_self_eq_true, jp, eq_self, yk, va, Int.reduceBNe, wn, qx, y9, fy, qe, zg1, f1, w6, slc, ← hH, q1, q2, yfn, yff, zug, v0_s, zze, xo, xq, Int.cast_ofNat_Int, w1, w2, q3, q4, l3', l4']
    have pp : Pre h h4 := (((p0.trans p1).more _).trans p3).trans p4
    obtain ⟨L, rfl⟩ := pp
    exact ⟨trivial, g8 h L rfl⟩
  obtain ⟨v, h', q, rfl, rfl⟩ := this
  exact q
end Go.Proofs.YtljdbheclfaloaaGreatDoor.AM
namespace Go.Proofs.YtljdbheclfaloaaGreatDoor.AM
open Go.RowKit
set_option linter.unusedSimpArgs false
set_option linter.unusedVariables false
set_option maxRecDepth 20000

def zyy : Bys := [108, 101, 116, 32, 99, 32, 61, 32, 114, 32, 124, 32, 115, 32, 108, 101, 116, 32, 100, 32, 61, 32, 114, 32, 38, 32, 115, 32, 108, 101, 116, 32, 102, 32, 61, 32, 114, 32, 92, 32, 115, 32, 108, 101, 116, 32, 103, 32, 61, 32, 114, 32, 59, 32, 115, 32, 108, 101, 116, 32, 104, 32, 61, 32, 97, 32, 42, 32, 98, 32, 108, 101, 116, 32, 105, 32, 61, 32, 91, 97, 93, 32, 108, 101, 116, 32, 106, 32, 61, 32, 114, 94, 45, 49, 32, 108, 101, 116, 32, 107, 32, 61, 32, 97, 32, 124, 32, 98, 32, 108, 101, 116, 32, 108, 32, 61, 32, 97, 32, 38, 32, 98, 32, 108, 101, 116, 32, 110, 32, 61, 32, 97, 32, 92, 32, 98, 32, 108, 101, 116, 32, 111, 32, 61, 32, 48, 32, 108, 101, 116, 32, 112, 32, 61, 32, 114, 32, 124, 32, 115, 32, 59, 32, 114, 32, 38, 32, 115, 32, 92, 32, 114, 32, 108, 101, 116, 32, 113, 32, 61, 32, 91, 97, 93, 32, 59, 32, 114, 32, 59, 32, 91, 98, 93, 32, 38, 32, 40, 97, 32, 42, 32, 98, 41]
def nMeans : Kn := [([114], false), ([115], false), ([97], true), ([98], true)]
def mMeans : Md := mdOf (zb4 zyy nMeans)
theorem zq7 : zb4 zyy nMeans = .ok mMeans := by kernel_rfl
def zm6 (r s : Nat → U) (a b : U) : En := [([97], false, ⟨0#32, r⟩), ([114], false, ⟨0#32, r⟩), ([115], false, ⟨0#32, s⟩), ([97], true, ⟨a, fun _ => 0#32⟩), ([98], true, ⟨b, fun _ => 0#32⟩)]
def pu (r s : Nat → U) (a b u : U) : En := envM u (env0 mMeans (zm6 r s a b)) mMeans.l
def wMeans : Bys := [99, 100, 102, 103, 104, 105, 106, 111, 112, 113]
def zng (r s : Nat → U) (a b : U) : List (Nat → U) := [b6 [r, s], zb8 [r, s], zgv r s, seqK [r, s], zd1 a b, idR a, invR r, fun _ => 0#32, b6 [r, zgv (zb8 [seqK [s, r], s]) r], zb8 [seqK [idR a, r, idR b], zd1 a b]]
def zp5 (a b : U) : List U := [a ||| b, a &&& b, a &&& ~~~ b]
def pR (p : Bool × Vv) : Bool × (Nat → U) := (p.1, p.2.r)
def pS (p : Bool × Vv) : Bool × U := (p.1, p.2.s)
section
variable (r s : Nat → U) (a b u : U)
theorem yfw : (jl [99] (pu r s a b u)).map pR = some (false, b6 [r, s]) := by kernel_rfl
theorem yer : (jl [100] (pu r s a b u)).map pR = some (false, zb8 [r, s]) := by kernel_rfl
theorem ye4 : (jl [102] (pu r s a b u)).map pR = some (false, zgv r s) := by kernel_rfl
theorem ygc : (jl [103] (pu r s a b u)).map pR = some (false, seqK [r, s]) := by kernel_rfl
theorem ye8 : (jl [104] (pu r s a b u)).map pR = some (false, zd1 a b) := by kernel_rfl
theorem yfr : (jl [105] (pu r s a b u)).map pR = some (false, idR a) := by kernel_rfl
theorem yfg : (jl [106] (pu r s a b u)).map pR = some (false, invR r) := by kernel_rfl
theorem yfd : (jl [111] (pu r s a b u)).map pR = some (false, fun _ => 0#32) := by kernel_rfl
theorem yfx : (jl [112] (pu r s a b u)).map pR = some (false, b6 [r, zgv (zb8 [seqK [s, r], s]) r]) := by kernel_rfl
theorem yft : (jl [113] (pu r s a b u)).map pR = some (false, zb8 [seqK [seqK [idR a, r], idR b], zd1 a b]) := by kernel_rfl
theorem yeo : (jl [107] (pu r s a b u)).map pS = some (true, a ||| b) := by kernel_rfl
theorem yen : (jl [108] (pu r s a b u)).map pS = some (true, a &&& b) := by kernel_rfl
theorem yd7 : (jl [110] (pu r s a b u)).map pS = some (true, a &&& ~~~ b) := by kernel_rfl
theorem ydy {k : Nat} (hk : k < 10) : ∃ v f, jl ((wMeans.drop k).take 1) (pu r s a b u) = some (false, v) ∧ (zng r s a b)[k]? = some f ∧ zjw v.r f = true := by
  have e2 : zjw (zb8 [seqK [seqK [idR a, r], idR b], zd1 a b]) (zb8 [seqK [idR a, r, idR b], zd1 a b]) = true := zwx fun x y hx hy => by
    rw [zoq _ hx hy, zoq _ hx hy]
    simp only [List.mem_cons, List.not_mem_nil, or_false, forall_eq_or_imp, forall_eq, yah _ _ _ hx, zn3 _ _ hx]
  have key : ∀ (w : Bys) (f : Nat → U), (jl w (pu r s a b u)).map pR = some (false, f) → ∃ v, jl w (pu r s a b u) = some (false, v) ∧ v.r = f := fun w f h => by
    cases hl : jl w (pu r s a b u) with
    | none => rw [hl] at h; cases h
    | some p => rw [hl] at h; obtain ⟨x, v⟩ := p; simp only [Option.map_some, pR, Option.some.injEq, Prod.mk.injEq] at h; exact ⟨v, by rw [h.1], h.2⟩
  match k, hk with
  | 0, _ => obtain ⟨v, h1, h2⟩ := key _ _ (yfw r s a b u); exact ⟨v, _, h1, rfl, by rw [h2]; exact pn _⟩
  | 1, _ => obtain ⟨v, h1, h2⟩ := key _ _ (yer r s a b u); exact ⟨v, _, h1, rfl, by rw [h2]; exact pn _⟩
  | 2, _ => obtain ⟨v, h1, h2⟩ := key _ _ (ye4 r s a b u); exact ⟨v, _, h1, rfl, by rw [h2]; exact pn _⟩
  | 3, _ => obtain ⟨v, h1, h2⟩ := key _ _ (ygc r s a b u); exact ⟨v, _, h1, rfl, by rw [h2]; exact pn _⟩
  | 4, _ => obtain ⟨v, h1, h2⟩ := key _ _ (ye8 r s a b u); exact ⟨v, _, h1, rfl, by rw [h2]; exact pn _⟩
  | 5, _ => obtain ⟨v, h1, h2⟩ := key _ _ (yfr r s a b u); exact ⟨v, _, h1, rfl, by rw [h2]; exact pn _⟩
  | 6, _ => obtain ⟨v, h1, h2⟩ := key _ _ (yfg r s a b u); exact ⟨v, _, h1, rfl, by rw [h2]; exact pn _⟩
  | 7, _ => obtain ⟨v, h1, h2⟩ := key _ _ (yfd r s a b u); exact ⟨v, _, h1, rfl, by rw [h2]; exact pn _⟩
  | 8, _ => obtain ⟨v, h1, h2⟩ := key _ _ (yfx r s a b u); exact ⟨v, _, h1, rfl, by rw [h2]; exact pn _⟩
  | 9, _ => obtain ⟨v, h1, h2⟩ := key _ _ (yft r s a b u); exact ⟨v, _, h1, rfl, by rw [h2]; exact e2⟩
theorem ybh {k : Nat} (hk : k < 3) : ∃ v f, jl ((([107, 108, 110] : Bys).drop k).take 1) (pu r s a b u) = some (true, v) ∧ (zp5 a b)[k]? = some f ∧ v.s = f := by
  have key : ∀ (w : Bys) (f : U), (jl w (pu r s a b u)).map pS = some (true, f) → ∃ v, jl w (pu r s a b u) = some (true, v) ∧ v.s = f := fun w f h => by
    cases hl : jl w (pu r s a b u) with
    | none => rw [hl] at h; cases h
    | some p => rw [hl] at h; obtain ⟨x, v⟩ := p; simp only [Option.map_some, pS, Option.some.injEq, Prod.mk.injEq] at h; exact ⟨v, by rw [h.1], h.2⟩
  match k, hk with
  | 0, _ => obtain ⟨v, h1, h2⟩ := key _ _ (yeo r s a b u); exact ⟨v, _, h1, rfl, h2⟩
  | 1, _ => obtain ⟨v, h1, h2⟩ := key _ _ (yen r s a b u); exact ⟨v, _, h1, rfl, h2⟩
  | 2, _ => obtain ⟨v, h1, h2⟩ := key _ _ (yd7 r s a b u); exact ⟨v, _, h1, rfl, h2⟩
end
theorem zyq {text : Bys} {names : Kn} {md : Md} {ns : Value} {h : Heap} (hp : zb4 text names = .ok md) (g : Gl h) (hns : Sl h ns 2 (names.map w5)) (hnl : names.length ≤ 10000) : ∃ mb h', DF FF zbi [str text, ns] h = some (tup [pt mb, .int .i64 0, .int .i64 0], h') ∧ ModP h' (fun z => h.length ≤ z ∧ z < h'.length) mb md ∧ Pre h h' ∧ MdOk md := by
  obtain ⟨v, h', q, r, p⟩ := zg4 text names ns g hns hnl
  have ok := (ztt hp).1
  rw [hp] at r
  obtain ⟨mb, rfl, M⟩ := r
  exact ⟨mb, h', q, M, p, ok⟩
theorem Sl.atK (h : Heap) {L : Heap} {k n c : Nat} {l : List Value} {ver : Nat} {ro : Bool} {rows : List (List Value)} (hk : L[k]? = some (.cells l ver ro)) (hl : l = rows.flatten) (hn : n = rows.length) (hc : ∀ r ∈ rows, r.length = c) : Sl (h ++ L) (.slice (some ⟨h.length + k, 0, some ver⟩) n c) c rows := by
  have hlt := (List.getElem?_eq_some_iff.1 hk).1
  have e : L = L.take k ++ ([.cells l ver ro] ++ L.drop (k + 1)) := by
    rw [List.singleton_append, ← zb7 hk, List.take_append_drop]
  have := (Sl.last (rows := rows) (c := c) (h ++ L.take k) hl hn hc ver ro).more (L.drop (k + 1))
  rw [List.append_assoc, List.append_assoc, ← e, List.length_append, List.length_take, Nat.min_eq_left (by omega)] at this
  exact this
theorem ztx {H : Heap} {b ver n : Nat} {l : List Value} {ro : Bool} (hb : H[b]? = some (.cells l ver ro)) (hn : l.length = n) : Heap.read H ⟨b, 0, some ver⟩ n = some l := by
  simp only [Heap.read, hb]
  rw [if_pos ⟨trivial, by omega⟩, List.drop_zero, List.take_of_length_le (by omega)]
theorem zvo (f0 f1 f2 f3 f4 f5 f6 f7 f8 f9 : Nat → U) : wo ((relV fun _ => 0#32) ++ ((relV fun _ => 0#32) ++ ((relV fun _ => 0#32) ++ ((relV fun _ => 0#32) ++ ((relV fun _ => 0#32) ++ ((relV fun _ => 0#32) ++ ((relV fun _ => 0#32) ++ ((relV fun _ => 0#32) ++ ((relV fun _ => 0#32) ++ ((relV fun _ => 0#32))))))))))) [(0, 32, agg (relV f0)), (32, 32, agg (relV f1)), (64, 32, agg (relV f2)), (96, 32, agg (relV f3)), (128, 32, agg (relV f4)), (160, 32, agg (relV f5)), (192, 32, agg (relV f6)), (224, 32, agg (relV f7)), (256, 32, agg (relV f8)), (288, 32, agg (relV f9))] = some (relV f0 ++ (relV f1 ++ (relV f2 ++ (relV f3 ++ (relV f4 ++ (relV f5 ++ (relV f6 ++ (relV f7 ++ (relV f8 ++ (relV f9)))))))))) := by
  have z : (relV fun _ => 0#32).length = 32 := y9 _
  generalize (relV fun _ => 0#32) = z0 at *
  have e : z0 ++ (z0 ++ (z0 ++ (z0 ++ (z0 ++ (z0 ++ (z0 ++ (z0 ++ (z0 ++ (z0))))))))) = [] ++ z0 ++ (z0 ++ z0 ++ z0 ++ z0 ++ z0 ++ z0 ++ z0 ++ z0 ++ z0) := by simp
  rw [e, vx (i := 0) (y9 _) rfl z]
  have e : ∀ x0 : List Value, [] ++ x0 ++ (z0 ++ z0 ++ z0 ++ z0 ++ z0 ++ z0 ++ z0 ++ z0 ++ z0) = (x0) ++ z0 ++ (z0 ++ z0 ++ z0 ++ z0 ++ z0 ++ z0 ++ z0 ++ z0) := fun x0 => by simp
  rw [e, vx (y9 _) (by simp [y9]) z]
  have e : ∀ x0 x1 : List Value, (x0) ++ x1 ++ (z0 ++ z0 ++ z0 ++ z0 ++ z0 ++ z0 ++ z0 ++ z0) = (x0 ++ x1) ++ z0 ++ (z0 ++ z0 ++ z0 ++ z0 ++ z0 ++ z0 ++ z0) := fun x0 x1 => by simp
  rw [e, vx (y9 _) (by simp [y9]) z]
  have e : ∀ x0 x1 x2 : List Value, (x0 ++ x1) ++ x2 ++ (z0 ++ z0 ++ z0 ++ z0 ++ z0 ++ z0 ++ z0) = (x0 ++ x1 ++ x2) ++ z0 ++ (z0 ++ z0 ++ z0 ++ z0 ++ z0 ++ z0) := fun x0 x1 x2 => by simp
  rw [e, vx (y9 _) (by simp [y9]) z]
  have e : ∀ x0 x1 x2 x3 : List Value, (x0 ++ x1 ++ x2) ++ x3 ++ (z0 ++ z0 ++ z0 ++ z0 ++ z0 ++ z0) = (x0 ++ x1 ++ x2 ++ x3) ++ z0 ++ (z0 ++ z0 ++ z0 ++ z0 ++ z0) := fun x0 x1 x2 x3 => by simp
  rw [e, vx (y9 _) (by simp [y9]) z]
  have e : ∀ x0 x1 x2 x3 x4 : List Value, (x0 ++ x1 ++ x2 ++ x3) ++ x4 ++ (z0 ++ z0 ++ z0 ++ z0 ++ z0) = (x0 ++ x1 ++ x2 ++ x3 ++ x4) ++ z0 ++ (z0 ++ z0 ++ z0 ++ z0) := fun x0 x1 x2 x3 x4 => by simp
  rw [e, vx (y9 _) (by simp [y9]) z]
  have e : ∀ x0 x1 x2 x3 x4 x5 : List Value, (x0 ++ x1 ++ x2 ++ x3 ++ x4) ++ x5 ++ (z0 ++ z0 ++ z0 ++ z0) = (x0 ++ x1 ++ x2 ++ x3 ++ x4 ++ x5) ++ z0 ++ (z0 ++ z0 ++ z0) := fun x0 x1 x2 x3 x4 x5 => by simp
  rw [e, vx (y9 _) (by simp [y9]) z]
  have e : ∀ x0 x1 x2 x3 x4 x5 x6 : List Value, (x0 ++ x1 ++ x2 ++ x3 ++ x4 ++ x5) ++ x6 ++ (z0 ++ z0 ++ z0) = (x0 ++ x1 ++ x2 ++ x3 ++ x4 ++ x5 ++ x6) ++ z0 ++ (z0 ++ z0) := fun x0 x1 x2 x3 x4 x5 x6 => by simp
  rw [e, vx (y9 _) (by simp [y9]) z]
  have e : ∀ x0 x1 x2 x3 x4 x5 x6 x7 : List Value, (x0 ++ x1 ++ x2 ++ x3 ++ x4 ++ x5 ++ x6) ++ x7 ++ (z0 ++ z0) = (x0 ++ x1 ++ x2 ++ x3 ++ x4 ++ x5 ++ x6 ++ x7) ++ z0 ++ (z0) := fun x0 x1 x2 x3 x4 x5 x6 x7 => by simp
  rw [e, vx (y9 _) (by simp [y9]) z]
  have e : ∀ x0 x1 x2 x3 x4 x5 x6 x7 x8 : List Value, (x0 ++ x1 ++ x2 ++ x3 ++ x4 ++ x5 ++ x6 ++ x7) ++ x8 ++ (z0) = (x0 ++ x1 ++ x2 ++ x3 ++ x4 ++ x5 ++ x6 ++ x7 ++ x8) ++ z0 ++ ([]) := fun x0 x1 x2 x3 x4 x5 x6 x7 x8 => by simp
  rw [e, vx (y9 _) (by simp [y9]) z]
  rw [yx]
  simp
theorem yep : Value.string zlr = str zyy := by kernel_rfl
def MnI (h h1 : Heap) (r s : Nat → U) (a b u : U) (mb : Nat) (k : Nat) (st : St) : Prop := ∃ K rs, (∃ j : Nat → Value, st = ⟨[j 0, j 1, .int .u32 (a.toNat : Int), .int .u32 (b.toNat : Int), .int .u32 (u.toNat : Int), j 5, j 6, j 7, j 8, j 9, j 10, j 11, .slice (some ⟨h.length + 3, 0, some 0⟩) 5 35, pt mb, j 14, j 15, rs, str wMeans, .int .i64 (k : Int), j 19, j 20, j 21, j 22, j 23, j 24, j 25, j 26, j 27, j 28, j 29, j 30, j 31, j 32, j 33, j 34, j 35, j 36, j 37, j 38, j 39, j 40, j 41, j 42, j 43, j 44, j 45, j 46, j 47, j 48, j 49, j 50, j 51, j 52, j 53, j 54, j 55, j 56, j 57, j 58, j 59, j 60, j 61, j 62, j 63, j 64, j 65, j 66, j 67, j 68, j 69, j 70, j 71, j 72, j 73, j 74, j 75, j 76, j 77, j 78, j 79, j 80, j 81, j 82, j 83, j 84, j 85, j 86, j 87, j 88, j 89, j 90, j 91, j 92, j 93, j 94, j 95, j 96, j 97, j 98, j 99, j 100, j 101, j 102, j 103, j 104, j 105, j 106, j 107, j 108, j 109, j 110, j 111, j 112, j 113, j 114, j 115, j 116, j 117, j 118, j 119, j 120, j 121, j 122, j 123, j 124, j 125, j 126, j 127, j 128, j 129, j 130, j 131, j 132, j 133, j 134, j 135, j 136, j 137, j 138, j 139, j 140, j 141, j 142, j 143, j 144, j 145, j 146, j 147, j 148, j 149, j 150, j 151, j 152, j 153, j 154, j 155, j 156, j 157, j 158, j 159, j 160, j 161, j 162, j 163, j 164, j 165, j 166, j 167, j 168, j 169, j 170, j 171, j 172], K⟩) ∧ Pre h1 K ∧ Sl K rs 32 ((zng r s a b).map relV)
def MnO (h h1 : Heap) (a b u : U) (mb : Nat) (st : St) : Prop := ∃ K, (∃ j : Nat → Value, st = ⟨[j 0, j 1, .int .u32 (a.toNat : Int), .int .u32 (b.toNat : Int), .int .u32 (u.toNat : Int), j 5, j 6, j 7, j 8, j 9, j 10, j 11, .slice (some ⟨h.length + 3, 0, some 0⟩) 5 35, pt mb, j 14, j 15, j 16, j 17, j 18, j 19, j 20, j 21, j 22, j 23, j 24, j 25, j 26, j 27, j 28, j 29, j 30, j 31, j 32, j 33, j 34, j 35, j 36, j 37, j 38, j 39, j 40, j 41, j 42, j 43, j 44, j 45, j 46, j 47, j 48, j 49, j 50, j 51, j 52, j 53, j 54, j 55, j 56, j 57, j 58, j 59, j 60, j 61, j 62, j 63, j 64, j 65, j 66, j 67, j 68, j 69, j 70, j 71, j 72, j 73, j 74, j 75, j 76, j 77, j 78, j 79, j 80, j 81, j 82, j 83, j 84, j 85, j 86, j 87, j 88, j 89, j 90, j 91, j 92, j 93, j 94, j 95, j 96, j 97, j 98, j 99, j 100, j 101, j 102, j 103, j 104, j 105, j 106, j 107, j 108, j 109, j 110, j 111, j 112, j 113, j 114, j 115, j 116, j 117, j 118, j 119, j 120, j 121, j 122, j 123, j 124, j 125, j 126, j 127, j 128, j 129, j 130, j 131, j 132, j 133, j 134, j 135, j 136, j 137, j 138, j 139, j 140, j 141, j 142, j 143, j 144, j 145, j 146, j 147, j 148, j 149, j 150, j 151, j 152, j 153, j 154, j 155, j 156, j 157, j 158, j 159, j 160, j 161, j 162, j 163, j 164, j 165, j 166, j 167, j 168, j 169, j 170, j 171, j 172], K⟩) ∧ Pre h1 K
def MsI (h h1 : Heap) (a b u : U) (mb : Nat) (k : Nat) (st : St) : Prop := ∃ K rs, (∃ j : Nat → Value, st = ⟨[j 0, j 1, j 2, j 3, .int .u32 (u.toNat : Int), j 5, j 6, j 7, j 8, j 9, j 10, j 11, .slice (some ⟨h.length + 3, 0, some 0⟩) 5 35, pt mb, j 14, j 15, j 16, j 17, j 18, j 19, j 20, rs, .int .i64 (k : Int), j 23, j 24, j 25, j 26, j 27, j 28, j 29, j 30, j 31, j 32, j 33, j 34, j 35, j 36, j 37, j 38, j 39, j 40, j 41, j 42, j 43, j 44, j 45, j 46, j 47, j 48, j 49, j 50, j 51, j 52, j 53, j 54, j 55, j 56, j 57, j 58, j 59, j 60, j 61, j 62, j 63, j 64, j 65, j 66, j 67, j 68, j 69, j 70, j 71, j 72, j 73, j 74, j 75, j 76, j 77, j 78, j 79, j 80, j 81, j 82, j 83, j 84, j 85, j 86, j 87, j 88, j 89, j 90, j 91, j 92, j 93, j 94, j 95, j 96, j 97, j 98, j 99, j 100, j 101, j 102, j 103, j 104, j 105, j 106, j 107, j 108, j 109, j 110, j 111, j 112, j 113, j 114, j 115, j 116, j 117, j 118, j 119, j 120, j 121, j 122, j 123, j 124, j 125, j 126, j 127, j 128, j 129, j 130, j 131, j 132, j 133, j 134, j 135, j 136, j 137, j 138, j 139, j 140, j 141, j 142, j 143, j 144, j 145, j 146, j 147, j 148, j 149, j 150, j 151, j 152, j 153, j 154, j 155, j 156, j 157, j 158, j 159, j 160, j 161, j 162, j 163, j 164, j 165, j 166, j 167, j 168, j 169, j 170, j 171, j 172], K⟩) ∧ Pre h1 K ∧ Sl K rs 1 ((zp5 a b).map fun x => [.int .u32 (x.toNat : Int)])
set_option maxHeartbeats 16000000 in
theorem zpa (r s : Nat → U) (a b u : U) {h : Heap} (g : Gl h) : ∃ v h', DF FF fx [agg (relV r), agg (relV s), .int .u32 (a.toNat : Int), .int .u32 (b.toNat : Int), .int .u32 (u.toNat : Int)] h = some (v, h') ∧ v = .bool true := by
  refine wz zel ?_
  have f1 : wo [str [], Value.bool false, str [], Value.bool false, str [], Value.bool false, str [], Value.bool false] [(0, 2, agg [str [114], Value.bool false]), (2, 2, agg [str [115], Value.bool false]), (4, 2, agg [str [97], Value.bool true]), (6, 2, agg [str [98], Value.bool true])] = some [str [114], Value.bool false, str [115], Value.bool false, str [97], Value.bool true, str [98], Value.bool true] := by rfl
  obtain ⟨L0, hL0⟩ : ∃ L0, L0 = [AObj.cells (relV r) 0 false, AObj.cells (relV s) 0 false, AObj.cells [str [114], Value.bool false, str [115], Value.bool false, str [97], Value.bool true, str [98], Value.bool true] 0 false,
    AObj.cells (wu [97] false ⟨0#32, r⟩ ++ (wu [114] false ⟨0#32, r⟩ ++ (wu [115] false ⟨0#32, s⟩ ++ (wu [97] true ⟨a, fun _ => 0#32⟩ ++ wu [98] true ⟨b, fun _ => 0#32⟩)))) 0 false] := ⟨_, rfl⟩
  have s2 : Sl (h ++ L0) (.slice (some ⟨h.length + 2, 0, some 0⟩) 4 2) 2 (nMeans.map w5) := Sl.atK h (k := 2) (by rw [hL0]; rfl) rfl rfl (by intro r hr; simp only [nMeans, List.map_cons, List.map_nil, List.mem_cons, List.not_mem_nil, or_false] at hr; rcases hr with rfl | rfl | rfl | rfl <;> rfl)
  have s3 : Sl (h ++ L0) (.slice (some ⟨h.length + 3, 0, some 0⟩) 5 35) 35 (za5 (zm6 r s a b)) := Sl.atK h (k := 3) (by rw [hL0]; rfl) (by simp [za5, zm6]) rfl (by intro r hr; simp only [za5, zm6, List.map_cons, List.map_nil, List.mem_cons, List.not_mem_nil, or_false] at hr; rcases hr with rfl | rfl | rfl | rfl | rfl <;> exact qe _ _ _)
  obtain ⟨mb, h1, q1, M, p1, ok⟩ := zyq zq7 (g.more L0) s2 (by decide)
  have x5 : (h ++ L0)[h.length]? = some (AObj.cells (relV r) 0 false) := by rw [hL0]; simp
  have x6 : (h ++ L0)[h.length + 1]? = some (AObj.cells (relV s) 0 false) := by rw [hL0]; simp
  have r5 : ∀ L, Heap.read (h1 ++ L) ⟨h.length, 0, some 0⟩ 32 = some (relV r) := fun L => ztx (y7 L (p1.kept _ _ x5)) (y9 _)
  have r6 : ∀ L, Heap.read (h1 ++ L) ⟨h.length + 1, 0, some 0⟩ 32 = some (relV s) := fun L => ztx (y7 L (p1.kept _ _ x6)) (y9 _)
  have r50 : Heap.read h1 ⟨h.length, 0, some 0⟩ 32 = some (relV r) := ztx (p1.kept _ _ x5) (y9 _)
  have r60 : Heap.read h1 ⟨h.length + 1, 0, some 0⟩ 32 = some (relV s) := ztx (p1.kept _ _ x6) (y9 _)
  rw [hL0] at q1
  simp only [za7, ya, zt, yo, zb, zw, yb, zn, zc, zp, zo, zf, ze, zd, List.set_cons_succ, List.set_cons_zero, O_mv, yy, yg, O_un, ye, List.map_cons, List.map_nil, xr, y4, vd, wd, w6, y6, yd, z8, xe, xg, yx, wt, fm, Nat.lt_add_one, Nat.zero_lt_succ, Nat.reduceLT, zoc, v8, List.cons_append, List.nil_append, List.length_cons, List.length_nil, Nat.reduceAdd, Nat.reduceSub, Nat.zero_add, Bool.not_true, zm, yc, zy, za, slc, w8, xh, y8, qg, xk, qy, xd, zg, zh, List.append_assoc, List.length_append, List.append_nil, Option.map_some, List.getElem?_cons_zero, List.getElem?_cons_succ, eq_self, yf, zs, zrn, zlg, yk, Int.reduceBNe, wn, zfk, qx, y9, fy, qe, zg1, zc2, zs3, zug, zyx, v0_s, v0_r, f1, w6, slc, yfi (g.more _), yep, q1, r5, r6, r50, r60, yas, ybb, zx3, zwn, ydo, yes, yfl, yfh, zli, zg2, zgj, zhr, zzm, zvo]
  have val : ∀ {K : Heap} (w : Bys), Pre h1 K → DF FF gh [pt mb, str w, .int .u32 (u.toNat : Int), .slice (some ⟨h.length + 3, 0, some 0⟩) 5 35] K = some (zls (pu r s a b u) w, K) := fun {K} w p =>
    zr9 (u := u) (bl := zm6 r s a b) (M.keep fun b o _ ho => p.kept b o ho) ok (s3.pre (p1.trans p)) (by simp [zm6]) w
  refine bu 0 10 (MnI h h1 r s a b u mb) (MnO h h1 a b u mb) ?_ ?_ _ ⟨_, _, junk rfl, (Pre.refl h1).more _, Sl.atK h1 (k := 8) rfl (by simp [zng]) rfl (by intro r hr; obtain ⟨f, _, rfl⟩ := List.mem_map.1 hr; exact y9 f)⟩ ?_
  · rintro k st hk ⟨K, rs, ⟨j, rfl⟩, p, sl⟩
    obtain ⟨v, f, hl, hf, hs⟩ := ydy r s a b u hk
    obtain ⟨b', o, vv, a1, a2⟩ := sl.at (k := k) (by simpa [zng] using hk)
    have hv := val ((wMeans.drop k).take 1) p
    unfold zls at hv
    rw [hl] at hv
    simp only at hv
    have hr : ((zng r s a b).map relV)[k]'(by simpa [zng] using hk) = relV f := by
      have := (List.getElem?_eq_some_iff.1 hf).2
      rw [List.getElem_map, this]
    rw [hr] at a2
    have lr : ∀ H, lenO H rs = some (.int .i64 10, H) := fun H => by rw [sl.len]; rfl
    have h1k : ((k : Int) < 10) = True := by simp; omega
    have cw : ∀ H, cutS H (some (.int .i64 (k : Int))) (some (.int .i64 ((k + 1 : Nat) : Int))) (str wMeans) = some (str ((wMeans.drop k).take 1), H) := fun H => by
      rw [zud H (by omega) (by show _ ≤ wMeans.length; simp [wMeans]; omega), Nat.add_sub_cancel_left]
    simp only [ya, zt, yo, zb, zz, zw, yb, zn, yi, zc, zp, y0, zo, zf, ze, zd, List.set_cons_succ, List.set_cons_zero, O_mv, y3, xj, yy, yg, ye, List.map_cons, List.map_nil, fc, vg, zx, zk, xr, y4, vz, zoc, wi, Nat.zero_add, Bool.not_true, zm, yc, zy, za, zi, yq, xb, z7, xh, y8, zl, yu, z6, yr, ym, xk, yh, zu, zr, Option.map_some, List.getElem?_cons_zero, List.getElem?_cons_succ, Bool.bne_true, eq_self, zos, yp, jg, Int.reduceBNe, decide_true, qe, bd_1, yar, lr, h1k, decide_true, xp (k := k) (by omega), cw, hv, a1, a2, ycv, hs]
    exact ⟨_, rs, junk rfl, p.more _, sl.more _⟩
  · rintro st ⟨K, rs, ⟨j, rfl⟩, p, sl⟩
    have lr : ∀ H, lenO H rs = some (.int .i64 10, H) := fun H => by rw [sl.len]; rfl
    have h1k : (((10 : Nat) : Int) < 10) = False := by simp
    simp only [ya, zt, vc, zb, zw, yb, zn, zc, zo, ze, zd, List.set_cons_succ, List.set_cons_zero, O_mv, yy, yg, fc, wi, zm, yc, za, yz, g7, xm, decide_false, lr, h1k, decide_false, g7]
    exact ⟨K, junk rfl, p⟩
  rintro st ⟨K, ⟨j, rfl⟩, p⟩
  simp only [ya, zb, yb, zn, zc, zo, zf, ze, zd, List.set_cons_succ, List.set_cons_zero, O_mv, yy, yg, vd, w6, yd, z8, xe, xg, yx, wt, Nat.lt_add_one, Nat.zero_lt_succ, Nat.reduceLT, zqy, zu7, zkg, List.cons_append, List.nil_append, List.length_cons, List.length_nil, Nat.reduceAdd, Nat.zero_add, zm, yc, zy, za, yj, slc, List.append_nil, u_or, zxq, znp]
  have z3 : ∀ x y z : U, Sl (K ++ [AObj.cells [.int .u32 (x.toNat : Int), .int .u32 (y.toNat : Int), .int .u32 (z.toNat : Int)] 0 false]) (.slice (some ⟨K.length, 0, some 0⟩) 3 1) 1 ([x, y, z].map fun x => [.int .u32 (x.toNat : Int)]) := fun x y z =>
    Sl.last (rows := [x, y, z].map fun x : U => [Value.int .u32 (x.toNat : Int)]) (c := 1) K rfl rfl (by intro r hr; obtain ⟨f, _, rfl⟩ := List.mem_map.1 hr; rfl) 0 false
  refine p7 3 (MsI h h1 a b u mb) ?_ ?_ _ ⟨_, _, junk rfl, p.more _, z3 _ _ _⟩
  · rintro k st hk ⟨K, rs, ⟨j, rfl⟩, p, sl⟩
    obtain ⟨v, f, hl, hf, hs⟩ := ybh r s a b u hk
    obtain ⟨b', o, vv, a1, a2⟩ := sl.at (k := k) (by simpa [zp5] using hk)
    have hv := val ((([107, 108, 110] : Bys).drop k).take 1) p
    unfold zls at hv
    rw [hl] at hv
    simp only at hv
    have hr : ((zp5 a b).map fun x => [Value.int .u32 (x.toNat : Int)])[k]'(by simpa [zp5] using hk) = [.int .u32 (f.toNat : Int)] := by
      have := (List.getElem?_eq_some_iff.1 hf).2
      rw [List.getElem_map, this]
    rw [hr] at a2
    have a3 : ∀ L, Heap.read1 (K ++ L) ⟨b', o, some vv⟩ = some (.int .u32 (f.toNat : Int)) := fun L => zh4 (a2 L) rfl
    have h1k : ((k : Int) < 3) = True := by simp; omega
    have cw : ∀ H, cutS H (some (.int .i64 (k : Int))) (some (.int .i64 ((k + 1 : Nat) : Int))) (str [107, 108, 110]) = some (str ((([107, 108, 110] : Bys).drop k).take 1), H) := fun H => by
      rw [zud H (by omega) (by show _ ≤ 3; omega), Nat.add_sub_cancel_left]
    have hn : (f != f) = false := by simp
    simp only [ya, zt, yo, zb, zz, zw, yb, zn, yi, zc, zp, y0, zo, zf, ze, zd, List.set_cons_succ, List.set_cons_zero, O_mv, y3, xj, yy, yg, O_un, ye, List.map_cons, List.map_nil, vg, zx, zk, vz, zoc, wi, v8, Nat.zero_add, Bool.not_true, zm, yc, zy, za, zi, yq, xb, z7, xh, y8, zl, yu, z6, yr, ym, yh, zu, zr, Option.map_some, List.getElem?_cons_zero, List.getElem?_cons_succ, eq_self, yp, jg, Int.reduceBNe, decide_true, u_ne, qe, bd_1, bd_2, h1k, decide_true, xp (k := k) (by omega), cw, hv, a1, a3, hs, hn]
    exact ⟨_, rs, junk rfl, p.more _, sl.more _⟩
  · rintro st ⟨K, rs, ⟨j, rfl⟩, p, sl⟩
    have h1k : (((3 : Nat) : Int) < 3) = False := by simp
    simp only [ya, zt, vc, xf, zb, zw, yb, zn, zc, zo, zf, ze, zd, List.set_cons_succ, List.set_cons_zero, O_mv, yy, yg, wi, zm, yc, za, yz, yj, wh, eq_self, xm, decide_false, h1k, decide_false]
end Go.Proofs.YtljdbheclfaloaaGreatDoor.AM
namespace Go.Proofs.YtljdbheclfaloaaGreatDoor.AM
set_option linter.unusedSimpArgs false
open Go.RowKit
set_option linter.unusedVariables false

theorem Gl.of {h : Heap} {m : Int} {u : TypeId} (hg : ∀ (i : Nat) (l : List Value), ([[.int .i64 m], [.iface u (.chan (some 0))]] : List (List Value))[i]? = some l → h[i]? = some (AObj.cells l 0 true)) : Gl h :=
  ⟨⟨m, hg 0 _ rfl⟩, _, hg 1 _ rfl, rfl⟩
theorem catMeans_law {m : Int} {t : TypeId} (h : Heap) (us : List Value) (hg : ∀ (i : Nat) (l : List Value), ([[.int .i64 m], [.iface t (.chan (some 0))]] : List (List Value))[i]? = some l → h[i]? = some (AObj.cells l 0 true)) (ht : zol h [(true, (List.replicate 32 (.int .u32))), (true, (List.replicate 32 (.int .u32))), (false, [(.int .u32)]), (false, [(.int .u32)]), (false, [(.int .u32)])] us) : ∃ h', DF FF fx us h = some (.bool true, h') := by
  match us, ht with
  | [u1, u2, u3, u4, u5], ht =>
    obtain ⟨r, rfl⟩ := zqe ht.1
    obtain ⟨s, rfl⟩ := zqe ht.2.1
    obtain ⟨a, rfl⟩ := zkt ht.2.2.1
    obtain ⟨b, rfl⟩ := zkt ht.2.2.2.1
    obtain ⟨u, rfl⟩ := zkt ht.2.2.2.2.1
    obtain ⟨v, h', e, rfl⟩ := zpa r s a b u (Gl.of hg)
    exact ⟨h', e⟩
end Go.Proofs.YtljdbheclfaloaaGreatDoor.AM
namespace Go.Proofs.YtljdbheclfaloaaGreatDoor.AM
set_option linter.unusedSimpArgs false
open Go.RowKit
theorem mixed : Tryz.prog.follows .mixedOrders = true := by kernel_rfl
theorem ygk : (Tryz.prog.funcs.all fun f => f.name != "runtime.NumGoroutine") = true := by kernel_rfl
theorem reads : yb5 Tryz.prog GG FF := by
  refine ⟨fun f fn hf => ?_, ybs (by decide)⟩
  have hf : (if zlw f then none else (Tryz.prog.funcs[f]?).bind (zj7 Tryz.prog GG ((ords.lookup f).getD []))) = some fn := hf
  split at hf
  · cases hf
  obtain ⟨pf, hp, hn⟩ := Option.bind_eq_some_iff.1 hf
  refine ⟨pf, _, hp, hn, ?_⟩
  have := Array.all_eq_true'.1 ygk pf (Array.mem_of_getElem? hp)
  simpa using this
end Go.Proofs.YtljdbheclfaloaaGreatDoor.AM
namespace Go.Proofs.YtljdbheclfaloaaGreatDoor.AM
open Go.RowKit
set_option linter.unusedSimpArgs false
set_option linter.unusedVariables false

theorem zt3 {P : Program} {W : World} : ∀ {laid : List (String × DataW Unit)} {ps : List MemPlace} {n : String} {d : DataW Unit}, DataW.LaidVars P W laid ps → (n, d) ∈ laid →
    ∃ g t cs fuel p, P.globalNamed n = some g ∧ (P.globals[g]?).map (·.type) = some t ∧ W.var? P n = some cs ∧ DataW.trod (fun _ => ()) P W 0 (fun _ => true) false fuel t cs.toList = some (d, p) ∧ ∀ i, i < cs.size → MemPlace.cell g i ∈ ps
  | [], ps, n, d, h, hm => by cases hm
  | (m, e) :: r, ps, n, d, h, hm => by
    obtain ⟨g, t, cs, fuel, p, q, h1, h2, h3, h4, h5, rfl⟩ := h
    rcases List.mem_cons.1 hm with hm | hm
    · cases hm
      refine ⟨g, t, cs, fuel, p, h1, h2, h3, h4, fun i hi => ?_⟩
      simp only [MemPlace.row, List.mem_append, List.mem_map, List.mem_range]
      exact .inl (.inl ⟨i, hi, by simp⟩)
    · obtain ⟨g', t', cs', fuel', p', k1, k2, k3, k4, k5⟩ := zt3 h5 hm
      exact ⟨g', t', cs', fuel', p', k1, k2, k3, k4, fun i hi => List.mem_append_right _ (k5 i hi)⟩
theorem zqf {P : Program} {W : World} {fuel : Nat} {u : TypeId} {cs : List Value} {d : DataW Unit} {p : List MemPlace} (h : DataW.trod (fun _ => ()) P W 0 (fun _ => true) false fuel u cs = some (.ptr d, p)) : ∃ e, P.underlying u = some (.pointer e) := by
  cases fuel with
  | zero => simp [DataW.trod] at h
  | succ fuel =>
    unfold DataW.trod at h
    split at h
    all_goals first
      | (rename_i hu; exact ⟨_, hu⟩)
      | (exfalso; simp at h; done)
      | (exfalso; simp only [Option.map_eq_some_iff] at h; obtain ⟨_, _, h⟩ := h; cases h; done)
      | (exfalso; split at h
         · simp only [Option.map_eq_some_iff, Option.bind_eq_some_iff] at h
           first
             | (obtain ⟨_, _, _, _, h⟩ := h; cases h; done)
             | (obtain ⟨_, _, h⟩ := h; cases h; done)
             | cases h
         · cases h
         done)
      | (exfalso; split at h <;> (first | (cases h; done) | (simp at h; done) | (simp only [Option.map_eq_some_iff] at h; obtain ⟨_, _, h⟩ := h; cases h; done)); done)
      | (exfalso; split at h
         · split at h
           · simp only [Option.bind_eq_some_iff] at h
             obtain ⟨_, _, h⟩ := h
             split at h <;> cases h
           · cases h
         · cases h)
theorem zl7 {P : Program} {W : World} {fuel : Nat} {t : TypeId} {ms : Array (String × TypeId)} {cs : List Value} {nm : String} {d : DataW Unit} {p : List MemPlace} (hu : P.underlying t = some (.interface ms)) (h : DataW.trod (fun _ => ()) P W 0 (fun _ => true) false fuel t cs = some (.iface nm (.ptr d), p)) :
    ∃ u v e, cs = [.iface u v] ∧ P.underlying u = some (.pointer e) := by
  cases fuel with
  | zero => simp [DataW.trod] at h
  | succ fuel =>
    unfold DataW.trod at h
    rw [hu] at h
    split at h <;> (first | (rename_i he; cases he; done) | (simp at h; done) | skip)
    · rename_i u v _
      split at h
      · simp at h
      · obtain ⟨y, h1, h2⟩ := Option.map_eq_some_iff.1 h
        obtain ⟨y1, y2⟩ := y
        simp only [Prod.mk.injEq, DataW.iface.injEq] at h2
        obtain ⟨⟨_, rfl⟩, _⟩ := h2
        obtain ⟨e, he⟩ := zqf h1
        exact ⟨u, v, e, rfl, he⟩
      · cases h
theorem sentinel_cell {P : Program} {W : World} {laid : List (String × DataW Unit)} {n nm : String} {d : DataW Unit} {g : Nat} {t : TypeId} {ms : Array (String × TypeId)} (hL : laidMet P laid W) (hm : (n, .iface nm (.ptr d)) ∈ laid) (hg : P.globalNamed n = some g) (ht : (P.globals[g]?).map (·.type) = some t) (hu : P.underlying t = some (.interface ms)) :
    ∃ u q, W.cell? ⟨g, 0, none⟩ = some (.iface u (.pointer q)) := by
  obtain ⟨ps, hv, _, hok⟩ := hL
  obtain ⟨g', t', cs, fuel, p, k1, k2, k3, k4, k5⟩ := zt3 hv hm
  obtain rfl := Option.some.inj (hg.symm.trans k1)
  obtain rfl := Option.some.inj (ht.symm.trans k2)
  obtain ⟨u, v, e, hcs, hp⟩ := zl7 hu k4
  have hc := World.var?_cell hg k3 0
  have h0 : cs[0]? = some (.iface u v) := by rw [← Array.getElem?_toList, hcs]; rfl
  rw [h0] at hc
  have hsz : 0 < cs.size := by
    have := congrArg List.length hcs; simp at this; omega
  have := (hok g 0 (k5 0 hsz)).2 u v hc
  obtain ⟨a, rfl⟩ := Go.WideShapes.okWide_pointer hp this
  exact ⟨u, a, hc⟩
variable {H : Type} {enc : TypeId × Value → H}
theorem returns_shaped {a : Assume} {C : Checked} {os : Os} {f : FuncId} {fn : Func} {s : ChangeSpec} {conds : List PathCond} {apart fresh handsOn again : Bool} {X : World → Array Value → Prop}
    (hX : ∀ (w w' : World) (args : Array Value), w.heap = w'.heap → X w args → X w' args)
    (own : ownKnob C.prog.godebug = none) (started : os.Started) (noInit : C.prog.inits.idxOf? f = none) (hfn : C.prog.funcs[f]? = some fn)
    (witness : ∃ (w : World) (tape : Tape) (i : Input), w.os = os ∧ (w.forCall tape i).Shaped C.prog ∧ i.vars = [] ∧ Input.okWide C.prog (w.forCall tape i) .any w.heap.size f i ∧
      ((s.pre enc C.prog fn conds apart (w.forCall tape i).memory i.args ∧ X (w.forCall tape i).memory i.args) ∧ sizedMet enc C.prog fn (OpenSpec.ofChange s) apart (w.forCall tape i).memory i.args) ∧ a.holds C.prog (lone (Frame.enter C.prog f i.args .normal) [] (w.forCall tape i)))
    (contract : ∀ (W : World) (base : Nat) (args : Array Value) (ds gs : List (DataW H)) (before : List MemPlace),
      (∀ (j : Nat) t v, fn.params[j]? = some t → args[j]? = some v → Value.okWide C.prog W .any base t v) →
      DataW.Whole enc C.prog fn.params.toList s.vars apart W args.toList ds gs before →
      (DataW.weightsEach C.prog (fn.params.toList ++ s.plain.varTypes C.prog) (ds ++ gs)).all (· ≤ reachBytes) = true → X W args → W.ShapedOpen C.prog →
      Calls C.prog f args W fun e W' => ∃ v, e = .returned v ∧ s.post enc C.prog fn apart fresh handsOn again W args v W') :
    ReturnsInHanded a C os f .any (fun w args => (s.pre enc C.prog fn conds apart w args ∧ X w args) ∧ sizedMet enc C.prog fn (OpenSpec.ofChange s) apart w args) (s.post enc C.prog fn apart fresh handsOn again) := by
  refine returnsInHanded_of_calls own started noInit witness ?_
  intro w tape i _ hsh _ hok hpre _
  obtain ⟨_, _, _, fn', hfn', _, _, _, _, hval⟩ := hok
  obtain rfl : fn' = fn := Option.some.inj (hfn'.symm.trans hfn)
  obtain ⟨⟨⟨ds, gs, before, hw, hc⟩, hx⟩, hz⟩ := hpre
  refine (contract (w.forCall tape i) w.heap.size i.args ds gs before hval (DataW.Whole.of_heap (w' := w.forCall tape i) (by rfl) hw) (hz.weights hw) (hX _ _ _ (by rfl) hx) hsh).mono fun e W' ⟨v, he, hp⟩ => ?_
  subst he
  exact ChangeSpec.post_blind hp
end Go.Proofs.YtljdbheclfaloaaGreatDoor.AM
