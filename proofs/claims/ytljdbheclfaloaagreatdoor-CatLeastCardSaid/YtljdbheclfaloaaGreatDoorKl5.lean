/-
  The machine, the functions, what they come to: part 5.
  Conditions: as each says.
-/
import Derived.Test.YtljdbheclfaloaaGreatDoorKl4
namespace Go.Proofs.YtljdbheclfaloaaGreatDoor.AM
open Go.RowKit
set_option linter.unusedSimpArgs false
set_option linter.unusedVariables false

def zim (l : List UInt8) : Res := if 8192 < l.length then .bad 2 0 else pk l 0
def TokR (h H : Heap) (v : Value) : Res → Prop
  | .ok m => ∃ s, v = tup [s, .int .i64 0, .int .i64 0] ∧ Own h H s 4 (m.map vy)
  | .bad c a => v = tup [.slice none 0 0, .int .i64 (c : Int), .int .i64 (a : Int)]
theorem ybu {l : List UInt8} {a : Nat} (ha : a < l.length) : zfs (l.drop a) = if digV (l[a].toNat : Int) then (match numV ((l.drop a).take (rowN numB (l.drop a))) with
      | some n => .word 2 (rowN numB (l.drop a)) (IntKind.i64.wrap n)
      | none => .bad 23)
    else if letV (l[a].toNat : Int) || (l[a].toNat : Int) == 95 then .word 1 (rowN namB (l.drop a)) 0
    else if [47, 92].isPrefixOf (l.drop a) || [92, 47].isPrefixOf (l.drop a) then .word 3 2 0
    else if yaf l[a] then .word 3 1 0
    else .bad 20 := by
  have hd := zpo ha
  rw [hd]; rfl
theorem zxu {l : List UInt8} {a : Nat} (ha : a < l.length) : l.drop a ≠ [] := by intro e; have := congrArg List.length e; simp at this; omega
theorem zv7 {l : List UInt8} {a : Nat} (ha : a < l.length) (hs : zgq (l.drop a) = .no) {kd k : Nat} {n : Int} (hw : zfs (l.drop a) = .word kd k n) : pk (l.drop a) a = (pk (l.drop (a + k)) (a + k)).pre [⟨kd, (l.drop a).take k, n, a⟩] := by
  rw [zh1 (zxu ha), hs]
  simp only [hw, List.drop_drop]
theorem zye {l : List UInt8} {a : Nat} (ha : a < l.length) (hs : zgq (l.drop a) = .no) {c : Nat} (hw : zfs (l.drop a) = .bad c) : pk (l.drop a) a = .bad c a := by
  rw [zh1 (zxu ha), hs]
  simp only [hw]
theorem zj4 {h H : Heap} {s : Value} {acc : List Tok} (e : Own h H s 4 (acc.map vy)) (p : Pre h H) (kd : Nat) (ki : Int) (hk : ki = kd) (w : List UInt8) (n : Int) (a : Nat) (hr : acc.length ≤ 8192) :
    ∃ s' H', ge (H ++ [.cells [.int .i64 ki, str w, .int .i64 n, .int .i64 (a : Int)] 0 false, .cells [.int .i64 ki, str w, .int .i64 n, .int .i64 (a : Int)] 0 false]) 4 40 s (zdl (H ++ [.cells [.int .i64 ki, str w, .int .i64 n, .int .i64 (a : Int)] 0 false, .cells [.int .i64 ki, str w, .int .i64 n, .int .i64 (a : Int)] 0 false]) 4 (.slice (some ⟨H.length + 1, 0, some 0⟩) 1 4)) = some (s', H') ∧
      Own h H' s' 4 ((acc ++ [Tok.mk kd w n a]).map vy) ∧ Pre h H' ∧ Heap.read1 H' ⟨H.length, 1, some 0⟩ = some (str w) := by
  subst hk
  obtain ⟨s', H', h1, h2, h3, h4, h5, h6⟩ := (e.more [.cells [.int .i64 (kd : Int), str w, .int .i64 n, .int .i64 (a : Int)] 0 false]).push (p.more _) (row := [.int .i64 (kd : Int), str w, .int .i64 n, .int .i64 (a : Int)]) (bytes := 40) rfl (by rw [List.length_map]; unfold fm; omega)
  simp only [List.append_assoc, List.cons_append, List.nil_append, List.length_append, List.length_cons, List.length_nil] at h1
  refine ⟨s', H', h1, ?_, h3, ?_⟩
  · rw [List.map_append]; exact h2
  · have := h5 H.length (.cells [.int .i64 (kd : Int), str w, .int .i64 n, .int .i64 (a : Int)] 0 false) (by simp) (by intro hb; have := (e.lt hb).2; omega)
    unfold Heap.read1
    simp only [this]; rfl
theorem Own.fin {h H : Heap} {s v : Value} {c : Nat} {rows : List (List Value)} (e : Own h H s c rows) (p : Pre h H) (hv : flat v = true → plain s = true) : Own h (AM.finish h v H) s c rows ∧ Pre h (AM.finish h v H) := by
  obtain ⟨L, rfl⟩ := p
  rcases znh h L v with hf | ⟨hf, hfl⟩
  · rw [hf]; exact ⟨e, L, rfl⟩
  · rw [hf]
    have hp := hv hfl
    rcases e with ⟨⟨rfl, rfl⟩ | ⟨b, ver, hb, rfl, ho⟩, hc⟩
    · exact ⟨⟨.inl ⟨rfl, rfl⟩, hc⟩, Pre.refl h⟩
    · cases hp
theorem ygc {s a b : Value} (h : flat (tup [s, a, b]) = true) : plain s = true := by
  have : (plain s && (plain a && (plain b && true))) = true := h
  simp at this; exact this.1
theorem zek (z0 z1 z2 z3 a b c d : Value) : wo [z0, z1, z2, z3] [(0, 4, agg [a, b, c, d])] = some [a, b, c, d] := by
  rw [wo, yf]; simp [splice, wo]
theorem idx0 {l : List UInt8} {a : Nat} (ha : a < l.length) (h : Heap) : idxO h (str (l.drop a)) (.int .i64 0) = some (.int .u8 (l[a].toNat : Int), h) := by
  have := zsa h (l := l.drop a) (k := 0) (by simp; omega) .i64
  rw [Int.cast_ofNat_Int] at this
  rw [this]; simp
theorem zf5 : ∀ (m : List UInt8) (c : UInt8), decide (0 ≤ Lib.indexByte m c) = m.contains c
  | [], c => rfl
  | b :: m, c => by
    rw [Lib.indexByte, List.contains_cons, ← zf5 m c]
    have hg := Lib.indexByte_ge m c
    by_cases hb : b = c
    · subst hb; simp
    · have : (b == c) = false := by simpa using hb
      have h2 : (c == b) = false := by simpa using fun e => hb e.symm
      rw [this, h2, Bool.false_or]
      by_cases h1 : Lib.indexByte m c = -1
      · rw [h1]; rfl
      · have h3 : (Lib.indexByte m c == -1) = false := by simpa using h1
        rw [h3]
        simp only [Bool.false_eq_true, if_false]
        rw [decide_eq_decide]; omega
theorem yc9 (c : UInt8) : c.toNat.toUInt8 = c := by simp
theorem zud (l : List UInt8) (p : Int → Bool) : (l.take (rowN p l)).length = rowN p l := by
  have := zio p l; simp; omega
set_option maxHeartbeats 8000000 in
set_option maxRecDepth 10000 in
theorem zno (l : List UInt8) {h : Heap} (g : Gl h) : ∃ v H', DF FF zed [str l] h = some (v, H') ∧ (TokR h H' v (zim l) ∧ Pre h H') := by
  refine wx zn1 ?_
  by_cases hl : 8192 < l.length
  · have c1 : ((8192 : Int) < (l.length : Int)) = True := by simp; omega
    simp only [zee, ya, zt, xc, zb, zz, yb, zm, zc, zo, zf, ze, zd, List.set_cons_succ, List.set_cons_zero, O_mv, yy, yg, zde, List.cons_append, List.nil_append, List.length_cons, List.length_nil, Nat.reduceSub, Nat.zero_add, zn, yc, za, y9, zh, zg, wy, zap, yj, w9, xk, c1, decide_true]
    unfold zim; rw [if_pos hl]
    exact ⟨rfl, Pre.refl h⟩
  have c1 : ((8192 : Int) < (l.length : Int)) = False := by simp; omega
  have htv : zim l = pk l 0 := by unfold zim; rw [if_neg hl]
  rw [htv]
  simp only [zee, ya, zt, ym, zb, zw, yb, zm, zc, zo, zf, ze, zd, List.set_cons_succ, List.set_cons_zero, O_mv, yy, yg, zde, List.cons_append, List.nil_append, List.length_cons, List.length_nil, Nat.reduceSub, Nat.zero_add, zn, yc, zy, za, zh, zg, yj, w9, xk, c1, decide_false]
  have stop : ∀ (a : Nat) (acc : List Tok) (H : Heap) (s : Value), a = l.length → Own h H s 4 (acc.map vy) → Pre h H → (pk (l.drop a) a).pre acc = pk l 0 → TokR h (finish h (tup [s, .int .i64 0, .int .i64 0]) H) (tup [s, .int .i64 0, .int .i64 0]) (pk l 0) ∧ Pre h (finish h (tup [s, .int .i64 0, .int .i64 0]) H) := by
    intro a acc H s ha ho hp hs
    subst ha
    rw [List.drop_length, zla] at hs
    rw [← hs]
    obtain ⟨f1, f2⟩ := ho.fin hp (v := tup [s, .int .i64 0, .int .i64 0]) ygc
    exact ⟨⟨s, rfl, by rw [List.append_nil]; exact f1⟩, f2⟩
  refine zac l.length (fun k st => ∃ (a : Nat) (acc : List Tok) (H : Heap) (s : Value) (j : Nat → Value), k ≤ a ∧ a ≤ l.length ∧ acc.length ≤ a ∧ Own h H s 4 (acc.map vy) ∧ Pre h H ∧ (pk (l.drop a) a).pre acc = pk l 0 ∧ st = ⟨[str l, j 1, .slice none 0 0, .int .i64 0, .int .i64 0, s, .int .i64 (a : Int), j 7, j 8, j 9, j 10, j 11, j 12, j 13, j 14, j 15, j 16, j 17, j 18, j 19, j 20, j 21, j 22, j 23, j 24, j 25, j 26, j 27, j 28, j 29, j 30, j 31, j 32, j 33, j 34, j 35, j 36, j 37, j 38, j 39, j 40, j 41, j 42, j 43, j 44, j 45, j 46, j 47, j 48, j 49, j 50, j 51, j 52, j 53, j 54, j 55, j 56, j 57, j 58, j 59, j 60, j 61, j 62, j 63, j 64, j 65, j 66, j 67, j 68, j 69, j 70, j 71, j 72, j 73, j 74, j 75, j 76, j 77, j 78, j 79, j 80, j 81, j 82, j 83, j 84, j 85, j 86, j 87, j 88, j 89, j 90, j 91, j 92, j 93, j 94, j 95, j 96, j 97, j 98, j 99, j 100, j 101, j 102, j 103, j 104, j 105, j 106, j 107, j 108, j 109, j 110, j 111, j 112, j 113, j 114, j 115], H⟩) ?_ ?_ _ ?_
  · rintro k st hk ⟨a, acc, H, s, j, h1, h2, h3, ho, hp, hs, rfl⟩
    by_cases hal : a < l.length
    · have d1 : ((a : Int) < (l.length : Int)) = True := by simp; omega
      have hsk := ybz hal
      have wa : IntKind.i64.wrap ((a : Int) + 1) = ((a + 1 : Nat) : Int) := xq (k := a) (by omega)
      have cf := zlz H (l := l) (k := a) (by omega) .i64
      have zkq : ∀ (m : Nat), zgq (l.drop a) = .go m → 1 ≤ m ∧ a + m ≤ l.length ∧ (pk (l.drop (a + m)) (a + m)).pre acc = pk l 0 := fun m hm => by
        have := zhn hm
        simp only [List.length_drop] at this
        exact ⟨this.1, by omega, by rw [← yby hal hm]; exact hs⟩
      by_cases hb : blkB (l[a].toNat : Int) = true
      · rw [if_pos hb] at hsk
        obtain ⟨_, q2, q3⟩ := zkq 1 hsk
        unfold blkB at hb
        have e : ∀ L : Heap, (Own h (H ++ L) s 4 (acc.map vy)) ∧ Pre h (H ++ L) := fun L => ⟨ho.more L, hp.more L⟩
        cases f1 : ((l[a].toNat : Int) == 32)
        · cases f2 : ((l[a].toNat : Int) == 9)
          · cases f3 : ((l[a].toNat : Int) == 10)
            · rw [f1, f2, f3] at hb; simp at hb
            · simp only [ya, zt, vj, ym, zb, zz, yb, zm, yi, zc, zp, y4, zo, zf, ze, zd, List.set_cons_succ, List.set_cons_zero, O_mv, y0, xi, yy, yg, x9, y7, yd, z8, yx, wt, Nat.lt_add_one, qf, k9, wm, List.length_cons, List.length_nil, Nat.reduceAdd, Nat.zero_add, zn, yc, zy, za, Option.map_none, yp, zl, yr, z6, yh, zu, zr, Option.map_some, eq_self, w9, xk, f5, j6, Option.map_none, Option.map_some, d1, decide_true, cf, idx0 hal, f1, f2, f3, wa]
              exact ⟨a + 1, acc, _, s, (junk rfl).elim fun j hj => ⟨j, by omega, by omega, by omega, (e _).1, (e _).2, q3, hj⟩⟩
          · simp only [ya, zt, vj, ym, zb, zz, yb, zm, yi, zc, zp, y4, wq, zo, zf, ze, zd, List.set_cons_succ, List.set_cons_zero, O_mv, y0, xi, yy, yg, x9, y7, yd, z8, yx, wt, Nat.lt_add_one, qf, k9, wm, List.length_cons, List.length_nil, Nat.reduceAdd, Nat.zero_add, zn, yc, zy, za, Option.map_none, yp, zl, yr, z6, yh, zu, zr, Option.map_some, eq_self, w9, xk, f5, j6, Option.map_none, Option.map_some, d1, decide_true, cf, idx0 hal, f1, f2, wa]
            exact ⟨a + 1, acc, _, s, (junk rfl).elim fun j hj => ⟨j, by omega, by omega, by omega, (e _).1, (e _).2, q3, hj⟩⟩
        · simp only [ya, zt, vj, ym, zb, zz, yb, zm, yi, zc, zp, wq, zo, zf, ze, zd, List.set_cons_succ, List.set_cons_zero, O_mv, y0, xi, yy, yg, x9, y7, yd, z8, yx, wt, Nat.lt_add_one, qf, k9, wm, List.length_cons, List.length_nil, Nat.reduceAdd, Nat.zero_add, zn, yc, zy, za, Option.map_none, yp, zl, yr, z6, yh, zu, zr, Option.map_some, eq_self, w9, xk, f5, j6, Option.map_none, Option.map_some, d1, decide_true, cf, idx0 hal, f1, wa]
          exact ⟨a + 1, acc, _, s, (junk rfl).elim fun j hj => ⟨j, by omega, by omega, by omega, (e _).1, (e _).2, q3, hj⟩⟩
      · rw [if_neg hb] at hsk
        have hb' := Bool.not_eq_true _ |>.mp hb
        unfold blkB at hb'
        rw [Bool.or_eq_false_iff, Bool.or_eq_false_iff] at hb'
        obtain ⟨⟨f1, f2⟩, f3⟩ := hb'
        cases hpre : [40, 42].isPrefixOf (l.drop a)
        · rw [hpre] at hsk
          have hsk : zgq (l.drop a) = .no := hsk
          have hw := ybu hal
          have worded : ∀ (kd k : Nat) (n : Int), zfs (l.drop a) = .word kd k n → 1 ≤ k ∧ a + k ≤ l.length ∧ (pk (l.drop (a + k)) (a + k)).pre (acc ++ [⟨kd, (l.drop a).take k, n, a⟩]) = pk l 0 := fun kd k n hk => by
            have := zfq hk
            simp only [List.length_drop] at this
            exact ⟨this.1, by omega, by rw [zv7 hal hsk hk, Res.pre_pre] at hs; exact hs⟩
          have refused : ∀ c : Nat, zfs (l.drop a) = .bad c → ∀ K : Heap, Pre h K → TokR h (AM.finish h (tup [.slice none 0 0, .int .i64 (c : Int), .int .i64 (a : Int)]) K) (tup [.slice none 0 0, .int .i64 (c : Int), .int .i64 (a : Int)]) (pk l 0) ∧ Pre h (AM.finish h (tup [.slice none 0 0, .int .i64 (c : Int), .int .i64 (a : Int)]) K) := fun c hc K pK => by
            rw [zye hal hsk hc] at hs
            rw [← hs]
            exact ⟨rfl, ((Own.nil h K 4).fin pK fun _ => rfl).2⟩
          have tlen : ∀ p : Int → Bool, rowN p (l.drop a) ≤ (l.drop a).length := fun p => zio p _
          have wsum : ∀ k : Nat, a + k ≤ l.length → IntKind.i64.wrap ((a : Int) + (k : Int)) = ((a + k : Nat) : Int) := fun k hk => by rw [ydx (by omega)]; omega
          have cw : ∀ (k : Nat) (K : Heap), k ≤ l.length - a → cutS K none (some (.int .i64 (k : Int))) (str (l.drop a)) = some (str ((l.drop a).take k), K) := fun k K hk => zw8 K (by simp; omega) .i64
          cases g1 : digV (l[a].toNat : Int)
          · rw [g1] at hw
            simp only [Bool.false_eq_true, if_false] at hw
            cases g2 : (letV (l[a].toNat : Int) || (l[a].toNat : Int) == 95)
            · rw [g2] at hw
              simp only [Bool.false_eq_true, if_false] at hw
              rw [Bool.or_eq_false_iff] at g2
              cases g3 : ([47, 92].isPrefixOf (l.drop a) || [92, 47].isPrefixOf (l.drop a))
              · rw [g3] at hw
                simp only [Bool.false_eq_true, if_false] at hw
                rw [Bool.or_eq_false_iff] at g3
                cases g4 : yaf l[a]
                · rw [g4] at hw
                  have g5 : decide (0 ≤ Lib.indexByte marksL l[a]) = false := by rw [zf5]; exact g4
                  simp only [ya, zt, xc, ym, zb, zz, zw, yb, zm, yi, zc, zp, y4, zo, zf, ze, zd, List.set_cons_succ, List.set_cons_zero, O_mv, y0, xi, yy, yg, ye, List.map_cons, List.map_nil, x9, y7, yd, z8, yx, wt, Nat.lt_add_one, k9, wm, zch, List.length_cons, List.length_nil, Nat.reduceAdd, Nat.zero_add, zn, yc, zy, za, y9, wd, Option.map_none, yp, zl, yr, z6, yh, zu, zr, Int.toNat_natCast, Option.map_some, zap, eq_self, zdj, w9, xk, f5, j6, Option.map_none, Option.map_some, d1, decide_true, cf, idx0 hal, f1, f2, f3, vr, hpre, gi, g1, g8, g2.1, g2.2, g3.1, g3.2, zo2, zcf, yc9, g5]
                  exact refused 20 hw _ (hp.more _)
                · rw [g4] at hw
                  have g5 : decide (0 ≤ Lib.indexByte marksL l[a]) = true := by rw [zf5]; exact g4
                  obtain ⟨q1, q2, q3⟩ := worded _ _ _ hw
                  obtain ⟨s', H', p1, p2, p3, p4⟩ := zj4 ho hp 3 3 rfl ((l.drop a).take 1) 0 a (by omega)
                  have hlen : (((l.drop a).take 1).length : Int) = ((1 : Nat) : Int) := by simp; omega
                  have cw1 := fun K => cw 1 K (by omega)
                  rw [Int.cast_ofNat_Int] at cw1
                  simp only [ya, zt, ym, zb, zz, zw, yb, zm, yi, zc, zp, y4, zo, zf, ze, zd, List.set_cons_succ, List.set_cons_zero, O_mv, y0, xi, yy, yg, ye, List.map_cons, List.map_nil, zx, zk, xt, y5, vf, x9, w7, y7, yd, z8, xe, xf, yx, wt, Nat.lt_add_one, Nat.zero_lt_succ, Nat.reduceLT, qf, k9, wm, zch, List.cons_append, List.nil_append, List.length_cons, List.length_nil, Nat.reduceAdd, Nat.zero_add, zn, yc, zy, za, zi, slc, gu, Option.map_none, yp, xa, z7, zl, xb, xz, yr, z6, xn, xd, yh, j9, vo, zu, zr, List.append_assoc, List.length_append, List.append_nil, Int.toNat_natCast, Nat.add_zero, Option.map_some, eq_self, yq, wj, w9, xk, f5, j6, Option.map_none, Option.map_some, d1, decide_true, cf, idx0 hal, f1, f2, f3, vr, hpre, gi, g1, g8, g2.1, g2.2, g3.1, g3.2, zo2, zcf, yc9, g5, zek, cw1, p1, p4, hlen, wsum 1 q2]
                  exact ⟨a + 1, _, H', s', (junk rfl).elim fun j hj => ⟨j, by omega, by omega, by simp; omega, p2, p3, q3, hj⟩⟩
              · rw [g3] at hw
                obtain ⟨q1, q2, q3⟩ := worded _ _ _ hw
                obtain ⟨s', H', p1, p2, p3, p4⟩ := zj4 ho hp 3 3 rfl ((l.drop a).take 2) 0 a (by omega)
                have hlen : (((l.drop a).take 2).length : Int) = ((2 : Nat) : Int) := by simp; omega
                have cw1 := fun K => cw 2 K (by omega)
                rw [Int.cast_ofNat_Int] at cw1
                cases g4 : [47, 92].isPrefixOf (l.drop a)
                · rw [g4, Bool.false_or] at g3
                  simp only [ya, zt, ym, zb, zz, zw, yb, zm, yi, zc, zp, y4, zo, zf, ze, zd, List.set_cons_succ, List.set_cons_zero, O_mv, y0, xi, yy, yg, ye, List.map_cons, List.map_nil, zx, zk, xt, y5, vf, x9, w7, y7, yd, z8, xe, xf, yx, wt, Nat.lt_add_one, Nat.zero_lt_succ, Nat.reduceLT, qf, k9, wm, List.cons_append, List.nil_append, List.length_cons, List.length_nil, Nat.reduceAdd, Nat.zero_add, zn, yc, zy, za, zi, slc, gu, Option.map_none, yp, xa, z7, zl, xb, xz, yr, z6, xn, xd, yh, j9, vo, zu, zr, List.append_assoc, List.length_append, List.append_nil, Nat.add_zero, Option.map_some, eq_self, yq, wj, w9, xk, f5, j6, Option.map_none, Option.map_some, d1, decide_true, cf, idx0 hal, f1, f2, f3, vr, hpre, gi, g1, g8, g2.1, g2.2, g4, g3, zek, cw1, p1, p4, hlen, wsum 2 q2]
                  exact ⟨a + 2, _, H', s', (junk rfl).elim fun j hj => ⟨j, by omega, by omega, by simp; omega, p2, p3, q3, hj⟩⟩
                · simp only [ya, zt, ym, zb, zz, zw, yb, zm, yi, zc, zp, y4, wq, zo, zf, ze, zd, List.set_cons_succ, List.set_cons_zero, O_mv, y0, xi, yy, yg, ye, List.map_cons, List.map_nil, zx, zk, xt, y5, vf, x9, w7, y7, yd, z8, xe, xf, yx, wt, Nat.lt_add_one, Nat.zero_lt_succ, Nat.reduceLT, qf, k9, wm, List.cons_append, List.nil_append, List.length_cons, List.length_nil, Nat.reduceAdd, Nat.zero_add, zn, yc, zy, za, zi, slc, gu, Option.map_none, yp, xa, z7, zl, xb, xz, yr, z6, xn, xd, yh, j9, vo, zu, zr, List.append_assoc, List.length_append, List.append_nil, Nat.add_zero, Option.map_some, eq_self, yq, wj, w9, xk, f5, j6, Option.map_none, Option.map_some, d1, decide_true, cf, idx0 hal, f1, f2, f3, vr, hpre, gi, g1, g8, g2.1, g2.2, g4, zek, cw1, p1, p4, hlen, wsum 2 q2]
                  exact ⟨a + 2, _, H', s', (junk rfl).elim fun j hj => ⟨j, by omega, by omega, by simp; omega, p2, p3, q3, hj⟩⟩
            · rw [g2] at hw
              simp only [if_true] at hw
              obtain ⟨q1, q2, q3⟩ := worded _ _ _ hw
              have hrow := fun K => zm8 (F := zav) ybk (l.drop a) (by simp; omega) K
              obtain ⟨s', H', p1, p2, p3, p4⟩ := zj4 ho hp 1 1 rfl ((l.drop a).take (rowN namB (l.drop a))) 0 a (by omega)
              have hlen := congrArg (Nat.cast : Nat → Int) (zud (l.drop a) namB)
              have cw1 := fun K => cw (rowN namB (l.drop a)) K (by omega)
              have hws := wsum _ q2
              generalize rowN namB (l.drop a) = n at hrow p1 p2 p4 hlen cw1 hws q1 q2 q3
              cases g3 : letV (l[a].toNat : Int)
              · rw [g3, Bool.false_or] at g2
                simp only [ya, zt, ym, zb, zz, zw, yb, zm, yi, zc, zp, y4, zo, zf, zoh, ze, zd, List.set_cons_succ, List.set_cons_zero, O_mv, y0, xi, yy, yg, ye, List.map_cons, List.map_nil, zx, zk, xt, y5, vf, x9, w7, y7, yd, z8, xe, xf, yx, wt, Nat.lt_add_one, Nat.zero_lt_succ, Nat.reduceLT, qf, k9, wm, List.cons_append, List.nil_append, List.length_cons, List.length_nil, Nat.reduceAdd, Nat.zero_add, zn, yc, zy, za, zi, slc, gu, Option.map_none, yp, xa, z7, zl, xb, xz, yr, z6, xn, xd, yh, j9, vo, zu, zr, List.append_assoc, List.length_append, List.append_nil, Nat.add_zero, Option.map_some, eq_self, yq, wj, w9, xk, f5, j6, Option.map_none, Option.map_some, d1, decide_true, cf, idx0 hal, f1, f2, f3, vr, hpre, gi, g1, g8, g3, g2, hrow, zek, cw1, p1, p4, hlen, hws]
                exact ⟨a + n, _, H', s', (junk rfl).elim fun j hj => ⟨j, by omega, by omega, by simp; omega, p2, p3, q3, hj⟩⟩
              · simp only [ya, zt, ym, zb, zz, zw, yb, zm, yi, zc, zp, y4, wq, zo, zf, zoh, ze, zd, List.set_cons_succ, List.set_cons_zero, O_mv, y0, xi, yy, yg, ye, List.map_cons, List.map_nil, zx, zk, xt, y5, vf, x9, w7, y7, yd, z8, xe, xf, yx, wt, Nat.lt_add_one, Nat.zero_lt_succ, Nat.reduceLT, qf, k9, wm, List.cons_append, List.nil_append, List.length_cons, List.length_nil, Nat.reduceAdd, Nat.zero_add, zn, yc, zy, za, zi, slc, gu, Option.map_none, yp, xa, z7, zl, xb, xz, yr, z6, xn, xd, yh, j9, vo, zu, zr, List.append_assoc, List.length_append, List.append_nil, Nat.add_zero, Option.map_some, eq_self, yq, wj, w9, xk, f5, j6, Option.map_none, Option.map_some, d1, decide_true, cf, idx0 hal, f1, f2, f3, vr, hpre, gi, g1, g8, g3, hrow, zek, cw1, p1, p4, hlen, hws]
                exact ⟨a + n, _, H', s', (junk rfl).elim fun j hj => ⟨j, by omega, by omega, by simp; omega, p2, p3, q3, hj⟩⟩
          · rw [g1] at hw
            simp only [if_true] at hw
            have hrow := fun K => zm8 (F := zay) yag (l.drop a) (by simp; omega) K
            have cw1 := fun K => cw (rowN numB (l.drop a)) K (by have := tlen numB; simp at this; omega)
            have hlen := congrArg (Nat.cast : Nat → Int) (zud (l.drop a) numB)
            have hnum := fun L => zn4 ((l.drop a).take (rowN numB (l.drop a))) ((g.pre hp).more L) (by simp; omega)
            obtain ⟨v, hn1, m, rfl, hn2⟩ := hnum [.cells [.int .i64 2, str ((l.drop a).take (rowN numB (l.drop a))), .int .i64 0, .int .i64 (a : Int)] 0 false]
            cases g2 : numV ((l.drop a).take (rowN numB (l.drop a))) with
            | none =>
              rw [g2] at hw hn1
              simp only [ya, zt, xc, ym, zb, zz, zw, yb, zm, yi, zc, zp, y4, zo, zf, zoh, ze, zd, List.set_cons_succ, List.set_cons_zero, O_mv, y0, xi, yy, yg, O_un, ye, List.map_cons, List.map_nil, zx, zk, x9, y7, yd, z8, yx, wt, Nat.lt_add_one, Nat.zero_lt_succ, Nat.reduceLT, k9, wm, qe, List.length_cons, List.length_nil, Nat.reduceAdd, Nat.zero_add, Bool.not_false, zn, yc, zy, za, y9, wd, Option.map_none, yp, xa, z7, xj, y8, zl, xb, xz, yr, z6, yu, yo, yh, j9, vo, zu, zr, Nat.add_zero, Option.map_some, List.getElem?_cons_zero, List.getElem?_cons_succ, zap, eq_self, zdj, wj, w9, xk, f5, j6, Option.map_none, Option.map_some, d1, decide_true, cf, idx0 hal, f1, f2, f3, vr, hpre, gi, g1, hrow, cw1, hn1, Option.isSome_none]
              exact refused 23 hw _ (hp.more _)
            | some u =>
              rw [g2] at hw hn1
              have hm := hn2 u g2
              subst hm
              obtain ⟨q1, q2, q3⟩ := worded _ _ _ hw
              obtain ⟨s', H', p1, p2, p3, p4⟩ := zj4 ho hp 2 2 rfl ((l.drop a).take (rowN numB (l.drop a))) (IntKind.i64.wrap u) a (by omega)
              have hws := wsum _ q2
              simp only [ya, zt, ym, zb, zz, zw, yb, zm, yi, zc, zp, y4, zo, zf, zoh, ze, zd, List.set_cons_succ, List.set_cons_zero, O_mv, y0, xi, yy, yg, O_un, ye, List.map_cons, List.map_nil, zx, zk, xt, y5, vf, x9, w7, y7, yd, z8, xe, xf, yx, wt, Nat.lt_add_one, Nat.zero_lt_succ, Nat.reduceLT, qf, k9, wm, qe, List.cons_append, List.nil_append, List.length_cons, List.length_nil, Nat.reduceAdd, Nat.zero_add, Bool.not_true, zn, yc, zy, za, zi, slc, gu, Option.map_none, yp, xa, z7, xj, y8, zl, xb, xz, yr, z6, yu, yo, xn, xd, yh, j9, vo, zu, zr, List.append_assoc, List.length_append, List.append_nil, Nat.add_zero, Option.map_some, List.getElem?_cons_zero, List.getElem?_cons_succ, eq_self, yq, wj, w9, xk, f5, j6, Option.map_none, Option.map_some, d1, decide_true, cf, idx0 hal, f1, f2, f3, vr, hpre, gi, g1, hrow, cw1, hn1, Option.isSome_some, zek, p1, p4, hlen, hws]
              exact ⟨a + rowN numB (l.drop a), _, H', s', (junk rfl).elim fun j hj => ⟨j, by omega, by omega, by simp; omega, p2, p3, q3, hj⟩⟩
        · rw [hpre, if_pos rfl] at hsk
          have c2 := fun K => zlz K (l := l.drop a) (k := 2) (by have := zor hpre; simpa using this) .i64
          have hidx := fun L => zfa ((l.drop a).drop 2) [42, 41] ((g.pre hp).more L) (by simp; omega)
          have hix := zqd ((l.drop a).drop 2)
          simp only [List.drop_drop, List.length_drop] at hix hidx c2
          simp only [Int.cast_ofNat_Int] at c2
          have hrl := zyq (l.drop (a + 2))
          simp only [List.length_drop] at hrl
          by_cases hr : remK (l.drop (a + 2)) + 1 < l.length - (a + 2)
          · rw [if_pos hr] at hix hsk
            obtain ⟨q1, q2, q3⟩ := zkq _ hsk
            have e1 : ((remK (l.drop (a + 2)) : Int) < 0) = False := by simp
            have w1 : IntKind.i64.wrap ((remK (l.drop (a + 2)) : Int) + 4) = ((remK (l.drop (a + 2)) + 4 : Nat) : Int) := by rw [ydx (by omega)]; omega
            have w2 : IntKind.i64.wrap ((a : Int) + ((remK (l.drop (a + 2)) + 4 : Nat) : Int)) = ((a + (remK (l.drop (a + 2)) + 4) : Nat) : Int) := by rw [ydx (by omega)]; omega
            simp only [ya, zt, vj, ym, zb, zz, zw, yb, zm, yi, zc, zp, y4, zo, zf, ze, zd, List.set_cons_succ, List.set_cons_zero, O_mv, y0, xi, yy, yg, ye, List.map_cons, List.map_nil, x9, y7, yd, z8, yx, wt, Nat.lt_add_one, qf, k9, wm, List.length_cons, List.length_nil, Nat.reduceAdd, Nat.zero_add, zn, yc, zy, za, Option.map_none, yp, zl, yr, z6, yh, zu, zr, Option.map_some, eq_self, w9, xk, f5, j6, Option.map_none, Option.map_some, d1, decide_true, decide_false, cf, idx0 hal, f1, f2, f3, vr, hpre, c2, hidx, hix, e1, w1, w2]
            exact ⟨a + (remK (l.drop (a + 2)) + 4), acc, _, s, (junk rfl).elim fun j hj => ⟨j, by omega, by omega, by omega, ho.more _, hp.more _, q3, hj⟩⟩
          · rw [if_neg hr] at hix hsk
            rw [zwe hal hsk] at hs
            rw [← hs]
            simp only [ya, zt, xc, ym, zb, zz, zw, yb, zm, yi, zc, zp, y4, zo, zf, ze, zd, List.set_cons_succ, List.set_cons_zero, O_mv, y0, xi, yy, yg, ye, List.map_cons, List.map_nil, x9, y7, yd, z8, yx, wt, Nat.lt_add_one, k9, wm, List.length_cons, List.length_nil, Nat.reduceAdd, Nat.zero_add, zn, yc, zy, za, y9, wd, Option.map_none, yp, zl, yr, z6, yh, zu, zr, Option.map_some, zap, Int.reduceLT, eq_self, zdj, w9, xk, f5, j6, Option.map_none, Option.map_some, d1, decide_true, cf, idx0 hal, f1, f2, f3, vr, hpre, c2, hidx, hix]
            exact ⟨rfl, ((Own.nil h _ 4).fin (hp.more _) fun _ => rfl).2⟩
    · have d1 : ((a : Int) < (l.length : Int)) = False := by simp; omega
      simp only [ya, zt, vj, xc, zb, zw, yb, zm, zc, zo, zf, ze, zd, List.set_cons_succ, List.set_cons_zero, O_mv, yy, yg, wm, zn, yc, za, yz, yk, zap, xo, w9, xk, d1, decide_false]
      exact stop a acc H s (by omega) ho hp hs
  · rintro st ⟨a, acc, H, s, j, h1, h2, h3, ho, hp, hs, rfl⟩
    have d1 : ((a : Int) < (l.length : Int)) = False := by simp; omega
    simp only [ya, zt, vj, xc, zb, zw, yb, zm, zc, zo, zf, ze, zd, List.set_cons_succ, List.set_cons_zero, O_mv, yy, yg, wm, zn, yc, za, yz, yk, zap, xo, w9, xk, d1, decide_false]
    exact stop a acc H s (by omega) ho hp hs
  · exact ⟨0, [], h, _, (junk rfl).elim fun j hj => ⟨j, by omega, by omega, by simp, Own.nil h h 4, Pre.refl h, by rw [List.drop_zero]; cases pk l 0 <;> rfl, hj⟩⟩
end Go.Proofs.YtljdbheclfaloaaGreatDoor.AM
namespace Go.Proofs.YtljdbheclfaloaaGreatDoor.AM
set_option linter.unusedSimpArgs false
open Go.RowKit
set_option linter.unusedVariables false

abbrev Bys := List UInt8
inductive Op1 | plus | star | maybe | inv
  deriving DecidableEq
inductive Op2 | or | and | minus | seq | cross
  deriving DecidableEq
inductive Ex
  | name (s : Bool) (a : Nat) (w : Bys)
  | zero (a : Nat)
  | par (s : Bool) (a : Nat) (e : Ex)
  | box (a : Nat) (e : Ex)
  | un (o : Op1) (e : Ex)
  | bin (s : Bool) (o : Op2) (l r : Ex)
def Ex.pl : Ex → Nat
  | .name _ a _ => a
  | .zero a => a
  | .par _ a _ => a
  | .box a _ => a
  | .un _ e => e.pl
  | .bin _ _ l _ => l.pl
def Ex.set : Ex → Bool
  | .name s _ _ => s
  | .par s _ _ => s
  | .bin s _ _ _ => s
  | _ => false
def keyT (t : Tok) : Bys := if t.kind = 2 then [] else t.text
def wLet : Bys := [108, 101, 116]
def wRec : Bys := [114, 101, 99]
def wAnd : Bys := [97, 110, 100]
def pq : Bys := [97, 99, 121, 99, 108, 105, 99]
def wIrr : Bys := [105, 114, 114, 101, 102, 108, 101, 120, 105, 118, 101]
def zdt : Bys := [101, 109, 112, 116, 121]
def wAs : Bys := [97, 115]
def kwL : List Bys := [wLet, wRec, wAnd, pq, wIrr, zdt, wAs]
def zbn (t : Tok) : Bool := t.kind == 1 && !kwL.contains t.text
def zk2 : List Tok → Bool
  | [] => false
  | t :: _ => t.kind == 2 || (zbn t || (keyT t == [40] || keyT t == [91]))
inductive PR (α : Type)
  | ok (x : α) (r : List Tok)
  | bad (c a : Nat)
def orM (k : Bys) : Option Op2 := if k == [124] then some .or else none
def andM (k : Bys) : Option Op2 := if k == [38] then some .and else if k == [92] then some .minus else none
def seqM (k : Bys) : Option Op2 := if k == [59] then some .seq else none
def binL (part : List Tok → PR Ex) (m : Bys → Option Op2) : Nat → Ex → List Tok → PR Ex
  | 0, n, ts => .ok n ts
  | _ + 1, n, [] => .ok n []
  | k + 1, n, t :: r => match m (keyT t) with
    | none => .ok n (t :: r)
    | some o => match part r with
      | .ok x r' => binL part m k (.bin false o n x) r'
      | .bad c a => .bad c a
def zc5 (part : List Tok → PR Ex) (m : Bys → Option Op2) (ts : List Tok) : PR Ex := match part ts with
  | .ok n r => binL part m r.length n r
  | .bad c a => .bad c a
def inv3 (e : Nat) (f : List Tok → PR Ex) : List Tok → PR Ex
  | [] => .bad 24 e
  | t :: r => if t.kind == 2 && t.n == 1 then f r else .bad 22 t.at_
def inv2 (e : Nat) (f : List Tok → PR Ex) : List Tok → PR Ex
  | [] => .bad 24 e
  | t :: r => if keyT t == [45] then inv3 e f r else .bad 22 t.at_
def zcr (e : Nat) : Nat → Ex → List Tok → PR Ex
  | 0, n, ts => .ok n ts
  | _ + 1, n, [] => .ok n []
  | k + 1, n, t :: r => if keyT t == [43] then zcr e k (.un .plus n) r
    else if keyT t == [63] then zcr e k (.un .maybe n) r
    else if keyT t == [42] && !zk2 r then zcr e k (.un .star n) r
    else if keyT t == [94] then inv2 e (fun r3 => zcr e k (.un .inv n) r3) r
    else .ok n (t :: r)
def zu3 (e : Nat) (prim : List Tok → PR Ex) (ts : List Tok) : PR Ex := match prim ts with
  | .ok n r => zcr e r.length n r
  | .bad c a => .bad c a
def zo9 (post : List Tok → PR Ex) (ts : List Tok) : PR Ex := match post ts with
  | .ok n [] => .ok n []
  | .ok n (t :: r) => if keyT t == [42] then match post r with
      | .ok m r2 => .ok (.bin false .cross n m) r2
      | .bad c a => .bad c a
    else .ok n (t :: r)
  | .bad c a => .bad c a
def zq0 (e : Nat) (cl : Bys) (n : Ex) : List Tok → PR Ex
  | [] => .bad 24 e
  | t :: r => if keyT t == cl then .ok n r else .bad 22 t.at_
def brP (e : Nat) (cl : Bys) (mk : Ex → Ex) : PR Ex → PR Ex
  | .bad c a => .bad c a
  | .ok n r => zq0 e cl (mk n) r
def brkP (e : Nat) (t : Tok) (r : List Tok) : Option (List Tok → PR Ex) → PR Ex
  | none => .bad 2 t.at_
  | some f => if keyT t == [40] then brP e [41] (.par false t.at_) (f r) else brP e [93] (.box t.at_) (f r)
def zpr (e : Nat) (inner : Option (List Tok → PR Ex)) : List Tok → PR Ex
  | [] => .bad 24 e
  | t :: r => if keyT t == [40] || keyT t == [91] then brkP e t r inner
    else if t.kind == 2 && t.n == 0 then .ok (.zero t.at_) r
    else if zbn t then .ok (.name false t.at_ t.text) r
    else .bad 22 t.at_
def yac (e : Nat) (prim : List Tok → PR Ex) : List Tok → PR Ex := zc5 (zc5 (zc5 (zo9 (zu3 e prim)) seqM) andM) orM
def zkl (e : Nat) : Nat → List Tok → PR Ex
  | 0 => yac e (zpr e none)
  | d + 1 => yac e (zpr e (some (zkl e d)))
def zm9 (e : Nat) : List Tok → PR (Bys × Nat)
  | [] => .bad 24 e
  | t :: r => if zbn t then .ok (t.text, t.at_) r else .bad 22 t.at_
def eatP (e : Nat) (m : Bys) : List Tok → PR Unit
  | [] => .bad 24 e
  | t :: r => if keyT t == m then .ok () r else .bad 22 t.at_
structure Gv where
  name : Bys
  at_ : Nat
  e : Ex
inductive Ck | acyclic | irr | empty
  deriving DecidableEq
inductive Stm
  | lets (rc : Bool) (gs : List Gv)
  | chk (k : Ck) (x : Ex) (as_ : Bys)
def zl7 (e : Nat) (ts : List Tok) : PR Gv := match zm9 e ts with
  | .bad c a => .bad c a
  | .ok w r => match eatP e [61] r with
    | .bad c a => .bad c a
    | .ok _ r1 => match zkl e 32 r1 with
      | .bad c a => .bad c a
      | .ok x r2 => .ok ⟨w.1, w.2, x⟩ r2
def p9 (e : Nat) : Nat → List Tok → PR (List Gv)
  | 0, ts => .ok [] ts
  | k + 1, ts => match zl7 e ts with
    | .bad c a => .bad c a
    | .ok g [] => .ok [g] []
    | .ok g (t :: r) => if keyT t == wAnd then match p9 e k r with
        | .bad c a => .bad c a
        | .ok gs r2 => .ok (g :: gs) r2
      else .ok [g] (t :: r)
def zon (e : Nat) (rc : Bool) (ts : List Tok) : PR Stm := match p9 e (ts.length + 1) ts with
  | .bad c a => .bad c a
  | .ok gs r => .ok (.lets rc gs) r
def ze3 (e : Nat) (k : Ck) (ts : List Tok) : PR Stm := match zkl e 32 ts with
  | .bad c a => .bad c a
  | .ok x [] => .ok (.chk k x []) []
  | .ok x (t :: r) => if keyT t == wAs then match zm9 e r with
      | .bad c a => .bad c a
      | .ok w r2 => .ok (.chk k x w.1) r2
    else .ok (.chk k x []) (t :: r)
def letP (e : Nat) : List Tok → PR Stm
  | [] => zon e false []
  | t :: r => if keyT t == wRec then zon e true r else zon e false (t :: r)
def zjr (e : Nat) : List Tok → PR Stm
  | [] => .bad 24 e
  | t :: r => if keyT t == wLet then letP e r
    else if keyT t == pq then ze3 e .acyclic r
    else if keyT t == wIrr then ze3 e .irr r
    else if keyT t == zdt then ze3 e .empty r
    else .bad 22 t.at_
def bg (e : Nat) : Nat → List Tok → PR (List Stm)
  | 0, ts => .ok [] ts
  | _ + 1, [] => .ok [] []
  | k + 1, t :: r => match zjr e (t :: r) with
    | .bad c a => .bad c a
    | .ok s r => match bg e k r with
      | .bad c a => .bad c a
      | .ok l r2 => .ok (s :: l) r2
def zmp (e : Nat) (ts : List Tok) : PR (List Stm) := bg e ts.length ts

/-! Names and kinds. -/
abbrev Kn := List (Bys × Bool)
def jo (kn : Kn) (w : Bys) : Option Bool := match kn with
  | [] => none
  | (v, s) :: r => if w == v then some s else jo r w
inductive CR (α : Type)
  | ok (x : α)
  | bad (c a : Nat)
def chkE (kn : Kn) (rc : List Bys) : Bool → Ex → CR Ex
  | rt, .name _ a w => match jo kn w with
    | none => .bad 40 a
    | some s => if rt && rc.contains w then .bad 43 a else .ok (.name s a w)
  | _, .zero a => .ok (.zero a)
  | rt, .par _ a e => match chkE kn rc rt e with
    | .bad c p => .bad c p
    | .ok e' => .ok (.par e'.set a e')
  | rt, .box a e => match chkE kn rc rt e with
    | .bad c p => .bad c p
    | .ok e' => if e'.set then .ok (.box a e') else .bad 41 e.pl
  | rt, .un o e => match chkE kn rc rt e with
    | .bad c p => .bad c p
    | .ok e' => if e'.set then .bad 41 e.pl else .ok (.un o e')
  | rt, .bin s o l r => match chkE kn rc rt l with
    | .bad c p => .bad c p
    | .ok l' => match chkE kn rc (rt || o == .minus) r with
      | .bad c p => .bad c p
      | .ok r' => match o with
        | .seq => if l'.set then .bad 41 l.pl else if r'.set then .bad 41 r.pl else .ok (.bin s o l' r')
        | .cross => if !l'.set then .bad 41 l.pl else if !r'.set then .bad 41 r.pl else .ok (.bin s o l' r')
        | _ => if r'.set != l'.set then .bad 41 r.pl else .ok (.bin l'.set o l' r')
def zan (kn : Kn) : Nat → List Bys → List Gv → CR Unit
  | _, _, [] => .ok ()
  | n, here, g :: gs => if (jo kn g.name).isSome || here.contains g.name then .bad 42 g.at_
    else if 64 ≤ n then .bad 2 g.at_
    else zan kn (n + 1) (here ++ [g.name]) gs
def zf2 (kn : Kn) (rc : List Bys) (rec_ : Bool) : List Gv → CR (List Gv)
  | [] => .ok []
  | g :: gs => match chkE kn rc false g.e with
    | .bad c a => .bad c a
    | .ok x => if rec_ && x.set then .bad 41 g.e.pl else match zf2 kn rc rec_ gs with
      | .bad c a => .bad c a
      | .ok l => .ok (⟨g.name, g.at_, x⟩ :: l)
def k7 (gs : List Gv) : Kn := gs.map fun g => (g.name, g.e.set)
def chkS (kn : Kn) (n : Nat) : Stm → CR Stm
  | .lets rec_ gs => match zan kn n [] gs with
    | .bad c a => .bad c a
    | .ok _ => match zf2 (if rec_ then kn ++ gs.map fun g => (g.name, false) else kn) (if rec_ then gs.map (·.name) else []) rec_ gs with
      | .bad c a => .bad c a
      | .ok l => .ok (.lets rec_ l)
  | .chk k x as_ => match chkE kn [] false x with
    | .bad c a => .bad c a
    | .ok x' => if k != .empty && x'.set then .bad 41 x.pl else .ok (.chk k x' as_)
def Stm.given : Stm → Kn
  | .lets _ gs => k7 gs
  | .chk _ _ _ => []
def chkM (kn : Kn) (n : Nat) : List Stm → CR (List Stm)
  | [] => .ok []
  | s :: l => match chkS kn n s with
    | .bad c a => .bad c a
    | .ok s' => match chkM (kn ++ s'.given) (n + s'.given.length) l with
      | .bad c a => .bad c a
      | .ok l' => .ok (s' :: l')
def b7 (kn : Kn) : Kn → Kn
  | [] => kn
  | d :: r => b7 (if (jo kn d.1).isSome then kn else kn ++ [d]) r
structure Md where
  known : Kn
  l : List Stm
def zcs (text : Bys) (names : Kn) : CR Md := if 4096 < text.length then .bad 2 0 else match pk text 0 with
  | .bad c a => .bad c a
  | .ok ts => match zmp text.length ts with
    | .bad c a => .bad c a
    | .ok l _ => match chkM (b7 [] names) 0 l with
      | .bad c a => .bad c a
      | .ok l' => .ok ⟨b7 [] names, l'⟩
end Go.Proofs.YtljdbheclfaloaaGreatDoor.AM
namespace Go.Proofs.YtljdbheclfaloaaGreatDoor.AM
open Go.RowKit
set_option linter.unusedSimpArgs false
set_option linter.unusedVariables false

def Kept (H H' : Heap) : Prop := ∀ (i : Nat) (o : AObj), H[i]? = some o → H'[i]? = some o
theorem Kept.more (H L : Heap) : Kept H (H ++ L) := fun i o h => by rw [List.getElem?_append_left (List.getElem?_eq_some_iff.1 h).1]; exact h
theorem Pre.kept {h H : Heap} (p : Pre h H) : Kept h H := by obtain ⟨L, rfl⟩ := p; exact Kept.more h L
section
variable {K : Heap} {b c j : Nat} {l : List Value} {o : AObj} {v : Option Nat}
theorem ybo (h : (b = c) = False) : Heap.read1 (K.set b o) ⟨c, j, v⟩ = Heap.read1 K ⟨c, j, v⟩ := by
  unfold Heap.read1; simp only; rw [List.getElem?_set_ne (by rw [ne_eq, h]; exact not_false)]
theorem fp {n : Nat} (hb : b < K.length) (hl : l.length = n) : Heap.read (K.set b (.cells l 0 false)) ⟨b, 0, some 0⟩ n = some l := by
  subst hl; simp [Heap.read, hb]
theorem zg3 {x : Value} (hb : b < K.length) (hj : j < l.length) : Heap.write1 (K.set b (.cells l 0 false)) ⟨b, j, some 0⟩ x = some (K.set b (.cells (l.set j x) 0 false)) := by
  simp [Heap.write1, hb, hj]
theorem b9 {x : Value} (e : K[b]? = some (.cells l 0 false)) (hj : j < l.length) : Heap.write1 K ⟨b, j, some 0⟩ x = some (K.set b (.cells (l.set j x) 0 false)) := by
  simp [Heap.write1, e, hj]
theorem zce {xs : List Value} (e : K[b]? = some (.cells l 0 false)) (hl : l.length = xs.length) : Heap.write K ⟨b, 0, some 0⟩ xs = some (K.set b (.cells xs 0 false)) := by
  simp [Heap.write, e, hl, splice, List.drop_eq_nil_of_le (Nat.le_of_eq hl)]
theorem x8 (e : K[b]? = some (.cells l 0 false)) : Heap.read1 K ⟨b, j, some 0⟩ = l[j]? := by simp [Heap.read1, e]
theorem zjt {n : Nat} (e : K[b]? = some (.cells l 0 false)) (hl : l.length = n) : Heap.read K ⟨b, 0, some 0⟩ n = some l := by
  subst hl; simp [Heap.read, e]
theorem yb6 (e : K[b]? = some o) : K.set b o = K := by
  apply List.ext_getElem?
  intro i
  by_cases h : b = i
  · subst h; rw [List.getElem?_set_self (List.getElem?_eq_some_iff.1 e).1, e]
  · rw [List.getElem?_set_ne h]
end
theorem zey (h H : Heap) (t : List Value) (R : Value → Heap → Prop) : retE h [] R .ret ⟨t, H⟩ = R (tup []) (AM.finish h (tup []) H) := by
  unfold retE
  apply propext
  constructor
  · rintro ⟨v, h', e, r⟩
    simp [endF, f9] at e
    obtain ⟨rfl, rfl⟩ := e; exact r
  · intro r; exact ⟨_, _, by simp [endF, f9], r⟩
theorem wn (h H : Heap) (t : List Value) (R : Value → Heap → Prop) : retE h [] R .normal ⟨t, H⟩ = R (tup []) (AM.finish h (tup []) H) := by
  unfold retE
  apply propext
  constructor
  · rintro ⟨v, h', e, r⟩
    simp [endF, f9] at e
    obtain ⟨rfl, rfl⟩ := e; exact r
  · intro r; exact ⟨_, _, by simp [endF, f9], r⟩
theorem yf5 (h L : Heap) : AM.finish h (tup []) (h ++ L) = h := fd h L rfl
def zzo (R : Value → Heap → Prop) (h H : Heap) : Option (List Value) → Prop
  | some l => R (agg l) (finish h (agg l) H)
  | none => False
def zlr (R : Value → Heap → Prop) (h H : Heap) (n : Nat) : Value → Prop
  | .pointer (some p) => zzo R h H (H.read p n)
  | _ => False
theorem zas (h H : Heap) (i n : Nat) (t : List Value) (R : Value → Heap → Prop) : retE h [.cells i n] R .ret ⟨t, H⟩ = zlr R h H n (t.getD i undef) := by
  unfold retE
  apply propext
  simp only [endF, f9, aRes]
  generalize t.getD i undef = x
  cases x with
  | pointer p =>
    cases p with
    | none => simp [zlr]
    | some p =>
      simp only [zlr]
      cases hr : H.read p n with
      | none => simp [zzo]
      | some l =>
        simp only [zzo]
        constructor
        · rintro ⟨v, h', e, r⟩
          simp at e
          obtain ⟨rfl, rfl⟩ := e
          exact r
        · intro r
          exact ⟨_, _, by simp, r⟩
  | _ => simp [zlr]
theorem jx (R : Value → Heap → Prop) (h H : Heap) (n : Nat) (p : Addr) : zlr R h H n (.pointer (some p)) = zzo R h H (H.read p n) := rfl
theorem kf (R : Value → Heap → Prop) (h H : Heap) (l : List Value) : zzo R h H (some l) = R (agg l) (finish h (agg l) H) := rfl
end Go.Proofs.YtljdbheclfaloaaGreatDoor.AM
namespace Go.Proofs.YtljdbheclfaloaaGreatDoor.AM
open Go.RowKit
set_option linter.unusedSimpArgs false
set_option linter.unusedVariables false

theorem wk {l : List Value} {i : Nat} {s : List UInt8} (r : List (Nat × Nat × Value)) (hi : i < l.length) : wo l ((i, 1, str s) :: r) = wo (l.set i (str s)) r := zgm r hi rfl
theorem f8 {l : List Value} {i : Nat} {p : Option Addr} (r : List (Nat × Nat × Value)) (hi : i < l.length) : wo l ((i, 1, .pointer p) :: r) = wo (l.set i (.pointer p)) r := zgm r hi rfl
theorem zun {l : List Value} {i : Nat} {p : Option Nat} (r : List (Nat × Nat × Value)) (hi : i < l.length) : wo l ((i, 1, .map p) :: r) = wo (l.set i (.map p)) r := zgm r hi rfl
abbrev pt (b : Nat) : Value := .pointer (some ⟨b, 0, some 0⟩)
def zqz (t : Tok) : Prop := (t.kind = 1 ∧ ∃ c l, t.text = c :: l ∧ (letV (c.toNat : Int) || (c.toNat : Int) == 95) = true) ∨ t.kind = 2 ∨ (t.kind = 3 ∧ ∃ c l, t.text = c :: l ∧ yaf c = true)
structure RP where
  r : Nat
  c : Nat
  en : Nat
  ws : Value
  cs : Value
  L : List Tok
  ne : r ≠ c
  wr : blk ws ≠ some r
  wc : blk ws ≠ some c
  cr : blk cs ≠ some r
  cc : blk cs ≠ some c
  ok : ∀ t ∈ L, zqz t
  len : L.length ≤ 8192
structure Rd (P : RP) (h : Heap) (i d x a : Nat) : Prop where
  hr : h[P.r]? = some (.cells [pt P.c, P.ws, .int .i64 (P.en : Int), .int .i64 (d : Int), .int .i64 (x : Int), .int .i64 (a : Int)] 0 false)
  hc : h[P.c]? = some (.cells [P.cs, .int .i64 (i : Int)] 0 false)
  sw : Sl h P.ws 4 (P.L.map vy)
  sc : Sl h P.cs 4 (P.L.map vy)
  le : i ≤ P.L.length
structure Mv (P : RP) (h h' : Heap) : Prop where
  keep : ∀ (b : Nat) (o : AObj), h[b]? = some o → b ≠ P.r → b ≠ P.c → h'[b]? = some o
  le : h.length ≤ h'.length
theorem Mv.refl (P : RP) (h : Heap) : Mv P h h := ⟨fun _ _ e _ _ => e, Nat.le_refl _⟩
theorem Mv.trans {P : RP} {h h' h'' : Heap} (a : Mv P h h') (b : Mv P h' h'') : Mv P h h'' := ⟨fun x o e n1 n2 => b.keep x o (a.keep x o e n1 n2) n1 n2, Nat.le_trans a.le b.le⟩
theorem Mv.more {P : RP} {h h' : Heap} (a : Mv P h h') (L : Heap) : Mv P h (h' ++ L) := a.trans ⟨fun x o e _ _ => Kept.more _ _ x o e, by simp⟩
theorem Mv.add (P : RP) (h L : Heap) : Mv P h (h ++ L) := (Mv.refl P h).more L
theorem y6 {h : Heap} {b : Nat} {o : AObj} (L : Heap) (e : h[b]? = some o) : (h ++ L)[b]? = some o := Kept.more h L b o e
section
variable {P : RP} {h : Heap} {i d x a : Nat}
theorem Rd.more (e : Rd P h i d x a) (L : Heap) : Rd P (h ++ L) i d x a := ⟨y6 L e.hr, y6 L e.hc, e.sw.more L, e.sc.more L, e.le⟩
theorem Rd.r1 (e : Rd P h i d x a) (L : Heap) (j : Nat) : Heap.read1 (h ++ L) ⟨P.r, j, some 0⟩ = ([pt P.c, P.ws, .int .i64 (P.en : Int), .int .i64 (d : Int), .int .i64 (x : Int), .int .i64 (a : Int)] : List Value)[j]? := x8 (y6 L e.hr)
theorem Rd.r0 (e : Rd P h i d x a) (j : Nat) : Heap.read1 h ⟨P.r, j, some 0⟩ = ([pt P.c, P.ws, .int .i64 (P.en : Int), .int .i64 (d : Int), .int .i64 (x : Int), .int .i64 (a : Int)] : List Value)[j]? := x8 e.hr
theorem Rd.c1 (e : Rd P h i d x a) (L : Heap) (j : Nat) : Heap.read1 (h ++ L) ⟨P.c, j, some 0⟩ = ([P.cs, .int .i64 (i : Int)] : List Value)[j]? := x8 (y6 L e.hc)
theorem Rd.c0 (e : Rd P h i d x a) (j : Nat) : Heap.read1 h ⟨P.c, j, some 0⟩ = ([P.cs, .int .i64 (i : Int)] : List Value)[j]? := x8 e.hc
theorem Rd.cl (e : Rd P h i d x a) (K : Heap) : lenO K P.cs = some (.int .i64 (P.L.length : Int), K) := by rw [e.sc.len, List.length_map]
theorem Rd.wl (e : Rd P h i d x a) (K : Heap) : lenO K P.ws = some (.int .i64 (P.L.length : Int), K) := by rw [e.sw.len, List.length_map]
theorem Rd.lr (e : Rd P h i d x a) : P.r < h.length := (List.getElem?_eq_some_iff.1 e.hr).1
theorem Rd.lc (e : Rd P h i d x a) : P.c < h.length := (List.getElem?_eq_some_iff.1 e.hc).1
theorem Rd.move {h' : Heap} {i' d' x' a' : Nat} (e : Rd P h i d x a) (m : Mv P h h')
    (hr : h'[P.r]? = some (.cells [pt P.c, P.ws, .int .i64 (P.en : Int), .int .i64 (d' : Int), .int .i64 (x' : Int), .int .i64 (a' : Int)] 0 false)) (hc : h'[P.c]? = some (.cells [P.cs, .int .i64 (i' : Int)] 0 false)) (hl : i' ≤ P.L.length) : Rd P h' i' d' x' a' :=
  ⟨hr, hc, e.sw.keep fun b hb o ho => m.keep b o ho (by rintro rfl; exact P.wr hb) (by rintro rfl; exact P.wc hb), e.sc.keep fun b hb o ho => m.keep b o ho (by rintro rfl; exact P.cr hb) (by rintro rfl; exact P.cc hb), hl⟩
theorem Rd.setC (e : Rd P h i d x a) {i' : Nat} (hl : i' ≤ P.L.length) : Rd P (h.set P.c (.cells [P.cs, .int .i64 (i' : Int)] 0 false)) i' d x a ∧ Mv P h (h.set P.c (.cells [P.cs, .int .i64 (i' : Int)] 0 false)) := by
  have m : Mv P h (h.set P.c (.cells [P.cs, .int .i64 (i' : Int)] 0 false)) := ⟨fun b o ho n1 n2 => by rw [List.getElem?_set_ne (Ne.symm n2)]; exact ho, by simp⟩
  exact ⟨e.move m (by rw [List.getElem?_set_ne (Ne.symm P.ne)]; exact e.hr) (by rw [List.getElem?_set_self e.lc]) hl, m⟩
theorem Rd.setR (e : Rd P h i d x a) (d' x' a' : Nat) : Rd P (h.set P.r (.cells [pt P.c, P.ws, .int .i64 (P.en : Int), .int .i64 (d' : Int), .int .i64 (x' : Int), .int .i64 (a' : Int)] 0 false)) i d' x' a' ∧ Mv P h (h.set P.r (.cells [pt P.c, P.ws, .int .i64 (P.en : Int), .int .i64 (d' : Int), .int .i64 (x' : Int), .int .i64 (a' : Int)] 0 false)) := by
  have m : Mv P h (h.set P.r (.cells [pt P.c, P.ws, .int .i64 (P.en : Int), .int .i64 (d' : Int), .int .i64 (x' : Int), .int .i64 (a' : Int)] 0 false)) := ⟨fun b o ho n1 n2 => by rw [List.getElem?_set_ne (Ne.symm n1)]; exact ho, by simp⟩
  exact ⟨e.move m (by rw [List.getElem?_set_self e.lr]) (by rw [List.getElem?_set_ne P.ne]; exact e.hc) e.le, m⟩
end
def zl4 : Tok := ⟨0, [], 0, 0⟩
def y3 (P : RP) (i : Nat) : Tok := (P.L[i]?).getD zl4
theorem yds {m n : Nat} (h : n ≤ m) (hm : m < 9223372036854775807) : IntKind.i64.wrap ((m : Int) - (n : Int)) = ((m - n : Nat) : Int) := by
  rw [zfd (by unfold W; omega)]; omega
theorem ydt {m n : Nat} (hm : m + n < 9223372036854775807) : IntKind.i64.wrap ((m : Int) + (n : Int)) = ((m + n : Nat) : Int) := by
  rw [zfd (by unfold W; omega)]; omega
theorem xg (t : Tok) : (vy t).length = 4 := by simp [vy]
theorem qg (t : Tok) : (vy t)[0]? = some (.int .i64 (t.kind : Int)) := rfl
theorem jm (t : Tok) : (vy t)[1]? = some (str t.text) := rfl
theorem zev (t : Tok) : (vy t)[2]? = some (.int .i64 t.n) := rfl
theorem ztg (t : Tok) : (vy t)[3]? = some (.int .i64 (t.at_ : Int)) := rfl
theorem zqi (t : Tok) : (vy t).all plain1 = true := rfl
theorem zto (h L : Heap) (t : Tok) : outE h (h ++ L) (some (vy t)) = some (agg (vy t), h) := zm3 h L (zqi t)
section
variable {P : RP} {h : Heap} {i d x a : Nat}
theorem zgt (e : Rd P h i d x a) : DF FF ju [pt P.c] h = some (.int .i64 ((P.L.length - i : Nat) : Int), h) := by
  refine wh zhs ?_
  have hl := P.len; have hi := e.le
  simp only [zc7, ya, xc, zb, yb, zm, zc, zo, zf, ze, zd, List.set_cons_succ, List.set_cons_zero, O_mv, yy, yg, fq, zx, zk, zrn, List.cons_append, List.nil_append, List.length_cons, List.length_nil, Nat.reduceSub, Nat.zero_add, zn, yc, za, zcu, xa, z7, zq, zj, zh, zg, Nat.add_zero, List.getElem?_cons_zero, List.getElem?_cons_succ, eq_self, e.c0, e.cl, yds e.le (show P.L.length < 9223372036854775807 by omega)]
theorem Rd.tok (e : Rd P h i d x a) {k : Nat} (hk : k < P.L.length) : ∃ b o v, (∀ H', rowO H' 4 P.ws (.int .i64 (k : Int)) = some (.pointer (some ⟨b, o, some v⟩), H')) ∧ ∀ L, Heap.read (h ++ L) ⟨b, o, some v⟩ 4 = some (vy (y3 P k)) := by
  obtain ⟨b, o, v, h1, h2⟩ := e.sw.at (k := k) (by simpa using hk)
  refine ⟨b, o, v, h1, fun L => ?_⟩
  rw [h2 L]; simp [y3, List.getElem?_eq_getElem hk]
theorem Rd.tokc (e : Rd P h i d x a) {k : Nat} (hk : k < P.L.length) : ∃ b o v, (∀ H', rowO H' 4 P.cs (.int .i64 (k : Int)) = some (.pointer (some ⟨b, o, some v⟩), H')) ∧ ∀ L, Heap.read (h ++ L) ⟨b, o, some v⟩ 4 = some (vy (y3 P k)) := by
  obtain ⟨b, o, v, h1, h2⟩ := e.sc.at (k := k) (by simpa using hk)
  refine ⟨b, o, v, h1, fun L => ?_⟩
  rw [h2 L]; simp [y3, List.getElem?_eq_getElem hk]
theorem j8 {k : Nat} (hk : ¬ k < P.L.length) : y3 P k = zl4 := by unfold y3; rw [List.getElem?_eq_none (by omega)]; rfl
theorem zjk (e : Rd P h i d x a) (k : Nat) (hk : k < 4) : DF FF qv [pt P.r, .int .i64 (k : Int)] h = some (agg (vy (y3 P (i + k))), h) := by
  refine wh zi4 ?_
  have hl := P.len; have hi := e.le
  by_cases hlt : i + k < P.L.length
  · have c1 : (((P.L.length - i : Nat) : Int) ≤ (k : Int)) = False := by simp; omega
    obtain ⟨b, o, v, q1, q2⟩ := e.tok hlt
    have w2 : IntKind.i64.wrap ((P.L.length : Int) - ((P.L.length - i : Nat) : Int)) = (i : Int) := by rw [zfd (by unfold W; omega)]; omega
    have w3 := ydt (m := i) (n := k) (by omega)
    have ht : zl2 P.ws = false := by rcases e.sw with ⟨⟨hn, _⟩ | ⟨_, _, _, hn, _⟩, _⟩ <;> rw [hn] <;> rfl
    have a1 : ∀ L, zbo (h ++ L) (.pointer (some ⟨P.r, 1, some 0⟩)) P.ws = some (undef, h ++ L) := fun L => bw (e.r1 L 1) ht
    simp only [za8, ya, zt, xc, ym, zb, zw, yb, zm, zc, zp, zo, ze, zd, List.set_cons_succ, List.set_cons_zero, O_mv, yy, yg, ye, List.map_cons, List.map_nil, fq, vt, zx, zk, xt, y5, qf, zrn, zch, List.cons_append, List.nil_append, List.length_cons, List.length_nil, Nat.reduceAdd, Nat.reduceSub, Nat.zero_add, zn, yc, za, yp, xa, z7, zl, yr, z6, zq, zj, xn, xd, yh, zu, zr, zh, zg, Nat.add_zero, Option.map_some, List.getElem?_cons_zero, List.getElem?_cons_succ, eq_self, zcw, yj, Option.map_some, gg, qu, zto, decide_false, xg, e.r1, zgt (e.more _), c1, decide_false, e.wl, w2, w3, q1, q2, a1]
  · have c1 : (((P.L.length - i : Nat) : Int) ≤ (k : Int)) = True := by simp; omega
    rw [j8 hlt]
    simp only [za8, ya, zt, xc, zb, zz, yb, zm, zc, zp, zo, ze, zd, List.set_cons_succ, List.set_cons_zero, O_mv, yy, yg, ye, List.map_cons, List.map_nil, zx, zk, x9, y7, yd, yx, zch, List.cons_append, List.nil_append, List.length_cons, List.length_nil, Nat.reduceAdd, Nat.reduceSub, Nat.zero_add, zn, yc, za, y9, yp, xa, z7, zl, yr, z6, zq, zj, xn, xd, yh, zu, zr, zh, zg, Nat.add_zero, List.getElem?_cons_zero, eq_self, yj, gg, qu, decide_true, e.r1, zgt (e.more _), c1, decide_true]
    exact zto h _ zl4
end
end Go.Proofs.YtljdbheclfaloaaGreatDoor.AM
namespace Go.Proofs.YtljdbheclfaloaaGreatDoor.AM
open Go.RowKit
set_option linter.unusedSimpArgs false
set_option linter.unusedVariables false

/-! Lists of strings. -/
def ze0 (s : Bys) : List Value := [str s]
theorem yet (l : List Bys) (w : Bys) : ∀ k, k < l.idxOf w → (hk : k < l.length) → (w == l[k]) = false := by
  induction l with
  | nil => intro k h; simp at h
  | cons a l ih =>
    intro k h hk
    rw [List.idxOf_cons] at h
    by_cases ha : (a == w) = true
    · rw [ha] at h; simp at h
    · have ha := Bool.not_eq_true _ |>.mp ha
      rw [ha] at h
      cases k with
      | zero => rw [List.getElem_cons_zero]; rw [Bool.eq_false_iff] at *; intro h'; exact ha (by simpa using (by simpa using h' : w = a).symm)
      | succ k => rw [List.getElem_cons_succ]; exact ih k (by simpa using h) (by simpa using hk)
theorem zn0 (l : List Bys) (w : Bys) {h : Heap} {s : Value} (e : Sl h s 1 (l.map ze0)) (hl : l.length < 4611686018427387904) : DF FF gh [s, str w] h = some (.int .i64 (if l.contains w then (l.idxOf w : Nat) else -1), h) := by
  refine wh zbw ?_
  have ln : ∀ K, lenO K s = some (.int .i64 (l.length : Int), K) := fun K => by rw [e.len, List.length_map]
  have hle : l.idxOf w ≤ l.length := List.idxOf_le_length
  simp only [bu, ya, zb, yb, zm, zc, zo, zf, ze, zd, List.set_cons_succ, List.set_cons_zero, O_mv, fq, List.cons_append, List.nil_append, List.length_cons, List.length_nil, Nat.reduceAdd, Nat.reduceSub, Nat.zero_add, zn, yc, zy, za, zh, zg, ln]
  refine zac (l.idxOf w) (fun k st => ∃ (j : Nat → Value), st = ⟨[s, str w, j 2, j 3, j 4, j 5, j 6, .int .i64 (l.length : Int), .int .i64 (k : Int), j 9, j 10, j 11, j 12, j 13, j 14, j 15, j 16, j 17, j 18], h⟩) ?_ ?_ _ ?_
  · rintro k st hk ⟨j, rfl⟩
    have h1 : ((k : Int) < (l.length : Int)) = True := by simp; omega
    have hkl : k < l.length := by omega
    obtain ⟨b, o, v, a1, a2⟩ := e.atH (k := k) (by simpa using hkl)
    have a2 := zk5 a2 (x := str l[k]) (by simp [ze0])
    have hne := yet l w k hk hkl
    simp only [ya, zt, ym, zb, zz, zw, yb, zm, zc, zo, zf, ze, zd, List.set_cons_succ, List.set_cons_zero, O_mv, yy, yg, vt, zx, zk, qf, wm, zn, yc, zy, za, zi, yq, va, decide_true, h1, decide_true, a1, a2, hne, xq (k := k) (by omega)]
    exact junk rfl
  · rintro st ⟨j, rfl⟩
    by_cases hm : w ∈ l
    · have hlt : l.idxOf w < l.length := List.idxOf_lt_length_of_mem hm
      have hc : l.contains w = true := by simpa using hm
      have h1 : (((l.idxOf w : Nat) : Int) < (l.length : Int)) = True := by simp; omega
      obtain ⟨b, o, v, a1, a2⟩ := e.atH (k := l.idxOf w) (by simpa using hlt)
      have a2 := zk5 a2 (x := str w) (by simp [ze0, List.getElem_idxOf])
      simp only [ya, zt, xc, ym, zb, zz, yb, zm, zc, zo, ze, zd, List.set_cons_succ, List.set_cons_zero, O_mv, yy, yg, vt, zx, zk, wm, zn, yc, zy, za, y9, wd, zcu, beq_self_eq_true, eq_self, zdj, va, decide_true, h1, decide_true, a1, a2, hc, if_true]
    · have hc : l.contains w = false := by simpa using hm
      have hlt : l.idxOf w = l.length := List.idxOf_eq_length hm
      have h1 : (((l.idxOf w : Nat) : Int) < (l.length : Int)) = False := by simp; omega
      simp only [ya, zt, vj, xc, zb, zw, yb, zm, zc, zo, zf, ze, zd, List.set_cons_succ, List.set_cons_zero, O_mv, yy, yg, wm, zn, yc, za, yz, yk, zcu, eq_self, xo, decide_false, h1, decide_false, hc, Bool.false_eq_true, if_false]
  · exact junk rfl
theorem zmq (l : List Bys) (w : Bys) {h : Heap} {s : Value} (e : Sl h s 1 (l.map ze0)) (hl : l.length < 4611686018427387904) : DF FF qz [s, str w] h = some (.bool (l.contains w), h) := by
  refine wh za4 ?_
  have := zn0 l w e hl
  cases hc : l.contains w
  · rw [hc] at this
    simp only [j5, ya, xc, zb, yb, zm, zc, zo, zf, ze, zd, List.set_cons_succ, List.set_cons_zero, O_mv, yy, yg, ye, List.map_cons, List.map_nil, zch, List.cons_append, List.nil_append, List.length_cons, List.length_nil, Nat.reduceAdd, Nat.reduceSub, Nat.zero_add, zn, yc, za, zcu, zh, zg, Int.reduceLE, eq_self, decide_false, this, Bool.false_eq_true, if_false]; all_goals rfl
  · rw [hc] at this
    simp only [j5, ya, xc, zb, yb, zm, zc, zo, zf, ze, zd, List.set_cons_succ, List.set_cons_zero, O_mv, yy, yg, ye, List.map_cons, List.map_nil, zch, List.cons_append, List.nil_append, List.length_cons, List.length_nil, Nat.reduceAdd, Nat.reduceSub, Nat.zero_add, zn, yc, za, zcu, zh, zg, eq_self, decide_true, this, if_true, show (0 : Int) ≤ ((l.idxOf w : Nat) : Int) from Int.natCast_nonneg _, decide_true]
theorem zb4 (w : Bys) (h : Heap) : DF FF pn [str w] h = some (.bool (kwL.contains w), h) := by
  refine wh zl5 ?_
  have e : Sl (h ++ [.cells [str wLet, str wRec, str wAnd, str pq, str wIrr, str zdt, str wAs] 0 false]) (.slice (some ⟨h.length, 0, some 0⟩) 7 1) 1 (kwL.map ze0) := Sl.last h (by rfl) (by rfl) (by intro r hr; simp [kwL, ze0] at hr; rcases hr with rfl | rfl | rfl | rfl | rfl | rfl | rfl <;> rfl) 0 false
  have c := zmq kwL w e (by decide)
  unfold wLet wRec wAnd pq wIrr zdt wAs at c
  simp only [zgv, ya, xc, zb, yb, zm, zc, zo, zf, ze, zd, List.set_cons_succ, List.set_cons_zero, O_mv, ye, List.map_cons, List.map_nil, vf, w7, yd, z8, xe, xf, yx, Nat.lt_add_one, Nat.zero_lt_succ, Nat.reduceLT, List.cons_append, List.nil_append, List.length_cons, List.length_nil, Nat.reduceAdd, Nat.reduceSub, Nat.zero_add, zn, yc, za, slc, zh, zg, List.append_nil, yj, wk, c]
  rw [zjp ((Pre.refl h).more _) _ _ _ rfl]; rfl
/-! A function that answers a row of cells and one more. -/
theorem zth (h H : Heap) (i n j : Nat) (t : List Value) (q : Value × Heap) : retQ h [.cells i n, .tmp j] (some q) .ret ⟨t, H⟩ = zil (fun v h' => some (v, h') = some q) h H n (t.getD j undef) (t.getD i undef) := by
  rw [← zh8]
  unfold retQ retE
  apply propext
  constructor
  · intro e; exact ⟨q.1, q.2, e, rfl⟩
  · rintro ⟨v, h', e, r⟩; rw [e]; exact r
theorem pz (h H : Heap) (v : Value) : AM.finish h v H = H ∨ (AM.finish h v H = h ∧ H.take h.length = h) := by
  unfold AM.finish; split
  · rename_i hc; exact .inr ⟨rfl, hc.2⟩
  · exact .inl rfl
theorem zte (h L : Heap) (t : Tok) (b : Bool) : AM.finish h (tup [agg (vy t), .bool b]) (h ++ L) = h := fd h L rfl
section
variable {P : RP} {h : Heap} {i d x a : Nat}
theorem zuc (e : Rd P h i d x a) : DF FF bp [pt P.c] h = some (tup [agg (vy (y3 P i)), .bool (decide (i < P.L.length))], h) := by
  refine wh zif ?_
  have hi := e.le
  by_cases hlt : i < P.L.length
  · have c1 : ((i : Int) == (P.L.length : Int)) = false := by simp; omega
    obtain ⟨b, o, v, q1, q2⟩ := e.tokc hlt
    simp only [zaj, ya, zt, xc, ym, zb, zw, yb, zm, zc, zp, zo, zf, ze, zd, List.set_cons_succ, List.set_cons_zero, O_mv, yy, yg, fq, vt, zx, zk, xt, y5, k9, List.cons_append, List.nil_append, List.length_cons, List.length_nil, Nat.reduceAdd, Nat.reduceSub, Nat.zero_add, zn, yc, za, yp, xa, z7, zl, yr, z6, zq, zj, xn, xd, yh, zu, zr, zh, zg, Nat.add_zero, Option.map_some, List.getElem?_cons_zero, List.getElem?_cons_succ, b4, zag, eq_self, yj, Option.map_some, decide_true, xg, e.c1, e.cl, c1, q1, q2, zth, b4, zag, zte, hlt, decide_true]
  · have c1 : ((i : Int) == (P.L.length : Int)) = true := by simp; omega
    rw [j8 hlt]
    simp only [zaj, ya, zt, xc, zb, zz, yb, zm, zc, zp, zo, zf, ze, zd, List.set_cons_succ, List.set_cons_zero, O_mv, yy, yg, fq, zx, zk, x9, y7, yd, yx, k9, List.cons_append, List.nil_append, List.length_cons, List.length_nil, Nat.reduceAdd, Nat.reduceSub, Nat.zero_add, zn, yc, za, y9, yp, xa, z7, zl, yr, z6, zq, zj, xn, xd, yh, zu, zr, zh, zg, Nat.add_zero, List.getElem?_cons_zero, List.getElem?_cons_succ, b4, zag, eq_self, yj, decide_false, e.c1, e.cl, c1, zth, b4, zag, hlt, decide_false]
    have := zte h [.cells (vy zl4) 0 false] zl4 false
    unfold zl4 vy at this
    simp only [Int.cast_ofNat_Int] at this
    unfold zl4 vy
    rw [Int.cast_ofNat_Int, this]
def atV (P : RP) (i : Nat) : Int := if i < P.L.length then ((y3 P i).at_ : Int) else if P.L.length = 0 then 0 else IntKind.i64.wrap (((y3 P (P.L.length - 1)).at_ : Int) + ((y3 P (P.L.length - 1)).text.length : Int))
theorem at_c (e : Rd P h i d x a) : DF FF bj [pt P.c] h = some (.int .i64 (atV P i), h) := by
  refine wh zjm ?_
  have hp := P.len
  unfold atV
  by_cases hlt : i < P.L.length
  · rw [if_pos hlt]
    simp only [pu, ya, zt, xc, zb, zz, yb, zm, zc, zp, zo, zf, ze, zd, List.set_cons_succ, List.set_cons_zero, O_mv, yg, ye, List.map_cons, List.map_nil, zx, zk, List.cons_append, List.nil_append, List.length_cons, List.length_nil, Nat.reduceAdd, Nat.reduceSub, Nat.zero_add, zn, yc, za, y9, yp, xa, z7, xj, y8, zl, yr, z6, yu, yo, yh, zu, zr, zh, zg, List.getElem?_cons_zero, List.getElem?_cons_succ, eq_self, yj, decide_true, xg, ztg, zuc e, hlt, decide_true]
    rw [zjp ((Pre.refl h).more _) _ _ _ rfl]; simp only [ze, zd, eq_self]
  · rw [if_neg hlt]
    by_cases h0 : P.L.length = 0
    · rw [if_pos h0]
      have c1 : (((P.L.length : Nat) : Int) == 0) = true := beq_iff_eq.2 (by omega)
      simp only [pu, ya, zt, xc, ym, zb, zz, zw, yb, zm, zc, zp, zo, zf, ze, zd, List.set_cons_succ, List.set_cons_zero, O_mv, yy, yg, ye, List.map_cons, List.map_nil, fq, zx, zk, k9, List.cons_append, List.nil_append, List.length_cons, List.length_nil, Nat.reduceAdd, Nat.reduceSub, Nat.zero_add, zn, yc, za, y9, yp, xa, z7, xj, y8, zl, yr, z6, zq, zj, yh, zu, zr, zh, zg, Nat.add_zero, List.getElem?_cons_zero, List.getElem?_cons_succ, eq_self, yj, decide_false, xg, zuc e, hlt, decide_false, e.c1, e.cl, c1]
      rw [zjp ((Pre.refl h).more _) _ _ _ rfl]; simp only [ze, zd, eq_self]
    · rw [if_neg h0]
      have c1 : (((P.L.length : Nat) : Int) == 0) = false := beq_eq_false_iff_ne.2 (by omega)
      have w1 : IntKind.i64.wrap ((P.L.length : Int) - 1) = ((P.L.length - 1 : Nat) : Int) := by rw [zfd (by unfold W; omega)]; omega
      obtain ⟨b, o, v, q1, q2⟩ := e.tokc (k := P.L.length - 1) (by omega)
      simp only [pu, ya, zt, xc, ym, zb, zw, yb, zm, zc, zp, zo, zf, ze, zd, List.set_cons_succ, List.set_cons_zero, O_mv, yy, yg, ye, List.map_cons, List.map_nil, fq, vt, zx, zk, xt, y5, qf, zrn, k9, List.cons_append, List.nil_append, List.length_cons, List.length_nil, Nat.reduceAdd, Nat.reduceSub, Nat.zero_add, zn, yc, za, yp, xa, z7, xj, y8, zl, yr, z6, zq, zj, fk, bk, yo, yh, w8, ve, zu, vk, zr, zh, zg, List.append_assoc, List.length_append, Nat.add_zero, Option.map_some, List.getElem?_cons_zero, List.getElem?_cons_succ, eq_self, yj, w9, xk, Option.map_some, decide_false, xg, jm, ztg, zuc e, hlt, decide_false, e.c1, e.cl, c1, w1, q1, q2, xk]
      rw [zjp ((Pre.refl h).more _) _ _ _ rfl]; simp only [ze, zd, eq_self]
theorem zhp (e : Rd P h i d x a) (hlt : i < P.L.length) : ∃ h', DF FF wv [pt P.c] h = some (tup [agg (vy (y3 P i)), .bool true], h') ∧ Rd P h' (i + 1) d x a ∧ Mv P h h' := by
  have hp := P.len
  have : ∃ v h', DF FF wv [pt P.c] h = some (v, h') ∧ (v = tup [agg (vy (y3 P i)), .bool true] ∧ Rd P h' (i + 1) d x a ∧ Mv P h h') := by
    refine wx zhu ?_
    obtain ⟨e2, m2⟩ := e.setC (i' := i + 1) hlt
    have w1 : ∀ L y, Heap.write1 (h ++ L) ⟨P.c, 1, some 0⟩ y = some ((h.set P.c (.cells [P.cs, y] 0 false)) ++ L) := fun L y => by
      rw [b9 (y6 L e.hc) (by simp), List.set_append_left _ _ e.lc]; rfl
    have rl : ∀ L j v, Heap.read1 (h.set P.c (.cells [P.cs, .int .i64 ((i + 1 : Nat) : Int)] 0 false) ++ L) ⟨h.length, j, v⟩ = Heap.read1 L ⟨0, j, v⟩ := fun L j v => by
      have := yu (h.set P.c (.cells [P.cs, .int .i64 ((i + 1 : Nat) : Int)] 0 false)) L j v
      rwa [List.length_set] at this
    have rl2 : ∀ L k j v n, Heap.read (h.set P.c (.cells [P.cs, .int .i64 ((i + 1 : Nat) : Int)] 0 false) ++ L) ⟨h.length + k, j, v⟩ n = Heap.read L ⟨k, j, v⟩ n := fun L k j v n => by
      have := qp (h.set P.c (.cells [P.cs, .int .i64 ((i + 1 : Nat) : Int)] 0 false)) L k j v n
      rwa [List.length_set] at this
    have wl : ∀ L j v xs, Heap.write (h.set P.c (.cells [P.cs, .int .i64 ((i + 1 : Nat) : Int)] 0 false) ++ L) ⟨h.length, j, v⟩ xs = preO (h.set P.c (.cells [P.cs, .int .i64 ((i + 1 : Nat) : Int)] 0 false)) (Heap.write L ⟨0, j, v⟩ xs) := fun L j v xs => by
      have := zu (h.set P.c (.cells [P.cs, .int .i64 ((i + 1 : Nat) : Int)] 0 false)) L j v xs
      rwa [List.length_set] at this
    have rl3 : ∀ L j v n, Heap.read (h.set P.c (.cells [P.cs, .int .i64 ((i + 1 : Nat) : Int)] 0 false) ++ L) ⟨h.length, j, v⟩ n = Heap.read L ⟨0, j, v⟩ n := fun L j v n => rl2 L 0 j v n
    simp only [zc8, ya, zt, xc, zb, zz, yb, zm, zc, zp, zo, zf, ze, zd, List.set_cons_succ, List.set_cons_zero, O_mv, yy, yg, ye, List.map_cons, List.map_nil, zx, zk, xt, y5, qf, List.cons_append, List.nil_append, List.length_cons, List.length_nil, Nat.reduceAdd, Nat.reduceSub, Nat.zero_add, zn, yc, za, yp, xa, z7, xj, y8, zl, xb, xz, yr, z6, zq, zj, jb, xd, yh, w8, ve, vk, zr, zh, zg, List.append_assoc, List.length_append, Option.map_some, List.getElem?_cons_zero, List.getElem?_cons_succ, zh8, b4, zag, eq_self, yj, Option.map_some, decide_true, xg, zuc (e.more _), hlt, decide_true, e.c1, xq (k := i) (by omega), w1, rl2, rl3, wl, zh8, b4, zag]
    refine ⟨trivial, ?_⟩
    rcases pz h (h.set P.c (.cells [P.cs, .int .i64 ((i + 1 : Nat) : Int)] 0 false) ++ [.cells (vy (y3 P i)) 0 false, .cells (vy (y3 P i)) 0 false]) (tup [agg (vy (y3 P i)), .bool true]) with hf | ⟨hf, hk⟩
    · rw [hf]; exact ⟨e2.more _, m2.more _⟩
    · exfalso
      have h1 := e.hc
      rw [← hk, List.take_append_of_le_length (by simp), List.take_of_length_le (by simp), e2.hc] at h1
      simp at h1; omega
  obtain ⟨v, h', q, rfl, r⟩ := this
  exact ⟨h', q, r⟩
end
end Go.Proofs.YtljdbheclfaloaaGreatDoor.AM
namespace Go.Proofs.YtljdbheclfaloaaGreatDoor.AM
open Go.RowKit
set_option linter.unusedSimpArgs false
set_option linter.unusedVariables false

theorem ze4 {F : Funcs} (b : pj) (s : St) (Q : AEx → St → Prop) : WPD (D F (.loop b) s) Q = WPD (D F b s) (zwo F (.loop b) Q) := by
  rw [yct]; unfold WPD; apply propext
  constructor
  · rintro ⟨x, s', h, q⟩
    cases ha : D F b s with
    | none => rw [ha] at h; cases h
    | some p =>
      obtain ⟨y, u⟩ := p
      rw [ha] at h
      refine ⟨y, u, rfl, ?_⟩
      cases y with
      | normal => exact ⟨x, s', h, q⟩
      | exit j => cases h; exact q
      | ret => cases h; exact q
  · rintro ⟨y, u, ha, q⟩
    rw [ha]
    cases y with
    | normal => exact q
    | exit j => exact ⟨_, _, rfl, q⟩
    | ret => exact ⟨_, _, rfl, q⟩
theorem Rd.fin {P : RP} {h H : Heap} {i d x a i' d' x' a' : Nat} (e : Rd P h i d x a) (e' : Rd P H i' d' x' a') (m : Mv P h H) (v : Value) (hne : i ≠ i' ∨ d ≠ d' ∨ x ≠ x' ∨ a ≠ a') : AM.finish h v H = H := by
  rcases pz h H v with hf | ⟨hf, hk⟩
  · exact hf
  · exfalso
    have hg : ∀ b o, h[b]? = some o → H[b]? = some o := fun b o hb => by
      rw [← hk] at hb
      have hlt := (List.getElem?_eq_some_iff.1 hb).1
      rw [List.getElem?_take] at hb
      split at hb
      · exact hb
      · cases hb
    have h1 := hg _ _ e.hr
    have h2 := hg _ _ e.hc
    rw [e'.hr] at h1
    rw [e'.hc] at h2
    simp at h1 h2
    omega
section
variable {P : RP} {h : Heap} {i d x a : Nat}
theorem zew : keyT zl4 = [] := rfl
theorem zhx (e : Rd P h i d x a) {s : Value} {m : Bys} (hm : m ≠ []) (hs : Sl h s 1 [[str m]]) : ∃ h', DF FF w5 [pt P.c, s] h = some (.bool (keyT (y3 P i) == m), h') ∧ Rd P h' (if keyT (y3 P i) == m then i + 1 else i) d x a ∧ Mv P h h' := by
  have hp := P.len
  have hi := e.le
  have ln : ∀ K, lenO K s = some (.int .i64 1, K) := fun K => hs.len K
  have hge : ∀ k : Nat, ((1 : Int) > ((P.L.length - k : Nat) : Int)) = (P.L.length ≤ k) := fun k => by apply propext; omega
  by_cases hlt : i < P.L.length
  · obtain ⟨b, o, v, q1, q2⟩ := e.tokc hlt
    obtain ⟨b', o', v', p1, p2⟩ := hs.at (k := 0) (by simp)
    have p2' : ∀ L, Heap.read1 (h ++ L) ⟨b', o', some v'⟩ = some (str m) := fun L => zk5 (p2 L) rfl
    have p0 : Heap.read1 h ⟨b', o', some v'⟩ = some (str m) := by have := p2' []; rwa [List.append_nil] at this
    have q0 : Heap.read h ⟨b, o, some v⟩ 4 = some (vy (y3 P i)) := by have := q2 []; rwa [List.append_nil] at this
    have c1 : (((P.L.length - i : Nat) : Int) < 1) = False := by simp; omega
    simp only [Int.cast_ofNat_Int] at p1
    have w0 : IntKind.i64.wrap ((i : Int) + 0) = (i : Int) := by rw [zfd (by unfold W; omega)]; omega
    have w1 : IntKind.i64.wrap ((i : Int) + 1) = ((i + 1 : Nat) : Int) := xq (by omega)
    obtain ⟨e2, m2⟩ := e.setC (i' := i + 1) hlt
    have wc : ∀ L y, Heap.write1 (h ++ L) ⟨P.c, 1, some 0⟩ y = some ((h.set P.c (.cells [P.cs, y] 0 false)) ++ L) := fun L y => by
      rw [b9 (y6 L e.hc) (by simp), List.set_append_left _ _ e.lc]; rfl
    cases hk : keyT (y3 P i) == m
    · have hkk : ((y3 P i).text != m) = true ∨ ((y3 P i).text != m) = false ∧ (((y3 P i).kind : Int) == 2) = true := by
        unfold keyT at hk
        by_cases h2 : (y3 P i).kind = 2
        · cases ht : (y3 P i).text != m
          · exact .inr ⟨rfl, beq_iff_eq.2 (by omega)⟩
          · exact .inl rfl
        · rw [if_neg h2] at hk; left; rw [bne, hk]; rfl
      refine ⟨h, ?_, by rw [if_neg Bool.false_ne_true]; exact e, Mv.refl P h⟩
      refine wh zax ?_
      rcases hkk with hkk | ⟨hkk, h2⟩
      · simp only [g9, ya, zt, xc, ym, zb, zz, zw, yb, zm, yi, zc, zp, wq, zo, zf, ze, zd, List.set_cons_succ, List.set_cons_zero, O_mv, y0, xi, yy, yg, ye, List.map_cons, List.map_nil, fq, vt, zx, zk, xt, y5, qf, wm, zde, List.cons_append, List.nil_append, List.length_cons, List.length_nil, Nat.reduceAdd, Nat.reduceSub, Nat.zero_add, zn, yc, zy, za, y9, wd, yp, xa, z7, zl, yr, z6, zq, zj, yu, yo, yh, zu, zr, zh, zg, Nat.add_zero, Option.map_some, List.getElem?_cons_zero, List.getElem?_cons_succ, Int.reduceLT, eq_self, yj, zhy, Option.map_some, decide_true, decide_false, xg, jm, ln, zgt e, c1, decide_false, decide_true, ze4, p1, p0, e.c0, w0, q1, q0, hkk]
        rw [zjp ((Pre.refl h).more _) _ _ _ rfl]; simp only [ze, zd, eq_self]
      · simp only [g9, ya, zt, xc, ym, zb, zz, zw, yb, zm, yi, zc, zp, y4, zo, zf, ze, zd, List.set_cons_succ, List.set_cons_zero, O_mv, y0, xi, yy, yg, ye, List.map_cons, List.map_nil, fq, vt, zx, zk, xt, y5, qf, k9, wm, zde, List.cons_append, List.nil_append, List.length_cons, List.length_nil, Nat.reduceAdd, Nat.reduceSub, Nat.zero_add, zn, yc, zy, za, y9, wd, yp, xa, z7, zl, yr, z6, zq, zj, yu, yo, yh, zu, zr, zh, zg, Nat.add_zero, Option.map_some, List.getElem?_cons_zero, List.getElem?_cons_succ, Int.reduceLT, eq_self, yj, zhy, Option.map_some, decide_true, decide_false, xg, qg, jm, ln, zgt e, c1, decide_false, decide_true, ze4, p1, p0, e.c0, w0, q1, q0, hkk, h2]
        rw [zjp ((Pre.refl h).more _) _ _ _ rfl]; simp only [ze, zd, eq_self]
    · have h2n : (y3 P i).kind ≠ 2 := by
        intro h2; unfold keyT at hk; rw [if_pos h2] at hk; exact hm (by simpa using hk)
      have h2 : (((y3 P i).kind : Int) == 2) = false := beq_eq_false_iff_ne.2 (by omega)
      have hkk : ((y3 P i).text != m) = false := by unfold keyT at hk; rw [if_neg h2n] at hk; rw [bne, hk]; rfl
      have : ∃ v h', DF FF w5 [pt P.c, s] h = some (v, h') ∧ (v = .bool true ∧ Rd P h' (i + 1) d x a ∧ Mv P h h') := by
        refine wx zax ?_
        simp only [g9, ya, zt, vj, xc, ym, zb, zz, zw, yb, zm, yi, zc, zp, y4, zo, zf, ze, zd, List.set_cons_succ, List.set_cons_zero, O_mv, y0, xi, yy, yg, ye, List.map_cons, List.map_nil, fq, vt, zx, zk, xt, y5, qf, k9, wm, zde, List.cons_append, List.nil_append, List.length_cons, List.length_nil, Nat.reduceAdd, Nat.reduceSub, Nat.zero_add, zn, yc, zy, za, yz, zi, yk, yp, xa, z7, zl, xb, xz, yr, z6, zq, zj, yu, yo, yh, zu, zr, zh, zg, Nat.add_zero, Option.map_some, List.getElem?_cons_zero, List.getElem?_cons_succ, wg, Int.reduceLT, eq_self, yj, zhy, Option.map_some, decide_true, decide_false, xg, qg, jm, ln, zgt e, c1, decide_false, decide_true, ze4, p1, p0, e.c0, e.c1, w0, w1, q1, q0, hkk, h2, wc, Int.reduceAdd, Int.reduceLT, IntKind.wrap_i64, Int.reduceMod, Int.reduceSub]
        have f := e.fin (e2.more [.cells (vy (y3 P i)) 0 false]) (m2.more _) (.bool true) (.inl (by omega))
        rw [f]
        exact ⟨trivial, e2.more _, m2.more _⟩
      obtain ⟨v, h', q, rfl, r⟩ := this
      exact ⟨h', q, by rw [if_pos rfl]; exact r⟩
  · have c1 : (((P.L.length - i : Nat) : Int) < 1) = True := by simp; omega
    have hk : (keyT (y3 P i) == m) = false := by rw [j8 hlt, zew]; simpa using hm
    refine ⟨h, ?_, by rw [hk, if_neg Bool.false_ne_true]; exact e, Mv.refl P h⟩
    refine wh zax ?_
    simp only [g9, ya, zt, xc, zb, zz, yb, zm, zc, zo, zf, ze, zd, List.set_cons_succ, List.set_cons_zero, O_mv, yy, yg, ye, List.map_cons, List.map_nil, fq, zde, List.cons_append, List.nil_append, List.length_cons, List.length_nil, Nat.reduceAdd, Nat.reduceSub, Nat.zero_add, zn, yc, za, y9, zcu, zh, zg, eq_self, yj, decide_true, ln, zgt e, c1, decide_true, hk]
end
end Go.Proofs.YtljdbheclfaloaaGreatDoor.AM
namespace Go.Proofs.YtljdbheclfaloaaGreatDoor.AM
open Go.RowKit
set_option linter.unusedSimpArgs false
set_option linter.unusedVariables false

section
variable {P : RP} {h : Heap} {i d x a : Nat}
theorem ok_c (e : Rd P h i d x a) : DF FF xw [pt P.r] h = some (.bool (((x : Int) == 0)), h) := by
  refine wh zke ?_
  simp only [zfu, ya, xc, zb, yb, zm, zc, zo, zf, ze, zd, List.set_cons_succ, List.set_cons_zero, O_mv, yy, yg, zx, zk, k9, List.cons_append, List.nil_append, List.length_cons, List.length_nil, Nat.reduceSub, Nat.zero_add, zn, yc, za, zcu, xa, z7, zq, zj, zh, zg, List.getElem?_cons_zero, List.getElem?_cons_succ, eq_self, e.r0]
theorem ok_0 (e : Rd P h i d 0 a) : DF FF xw [pt P.r] h = some (.bool true, h) := ok_c e
theorem fe (e : Rd P h i d x a) (hx : x ≠ 0) : DF FF xw [pt P.r] h = some (.bool false, h) := by
  rw [ok_c e, beq_eq_false_iff_ne.2 (by omega)]
theorem Rd.wr0 (e : Rd P h i d x a) (j : Nat) (hj : j < 6) (y : Value) : Heap.write1 h ⟨P.r, j, some 0⟩ y = some (h.set P.r (.cells (([pt P.c, P.ws, .int .i64 (P.en : Int), .int .i64 (d : Int), .int .i64 (x : Int), .int .i64 (a : Int)] : List Value).set j y) 0 false)) := b9 e.hr (by simpa using hj)
theorem zje (e : Rd P h i d 0 a) (c p : Nat) (hc : c ≠ 0) : ∃ h', DF FF x7 [pt P.r, .int .i64 (c : Int), .int .i64 (p : Int)] h = some (tup [], h') ∧ Rd P h' i d c p ∧ Mv P h h' := by
  have : ∃ v h', DF FF x7 [pt P.r, .int .i64 (c : Int), .int .i64 (p : Int)] h = some (v, h') ∧ (v = tup [] ∧ Rd P h' i d c p ∧ Mv P h h') := by
    refine wx zd3 ?_
    obtain ⟨e2, m2⟩ := e.setR d c a
    obtain ⟨e3, m3⟩ := e2.setR d c p
    simp only [za9, ya, zt, zb, zz, yb, zm, zc, zp, zo, zf, ze, zd, List.set_cons_succ, List.set_cons_zero, O_mv, yy, yg, zx, zk, k9, List.cons_append, List.nil_append, List.length_cons, List.length_nil, Nat.reduceAdd, Nat.reduceSub, Nat.zero_add, zn, yc, za, xa, z7, zl, xb, xz, zq, zj, zh, zg, List.getElem?_cons_zero, List.getElem?_cons_succ, beq_self_eq_true, eq_self, e.r0, e.wr0 4 (by omega), beq_self_eq_true, e2.wr0 5 (by omega), wn, Int.cast_ofNat_Int]
    have f := e.fin e3 (m2.trans m3) (tup []) (.inr (.inr (.inl (Ne.symm hc))))
    rw [f]
    exact ⟨trivial, e3, m2.trans m3⟩
  obtain ⟨v, h', q, rfl, r⟩ := this
  exact ⟨h', q, r⟩
theorem zly (e : Rd P h i d x a) (hx : x ≠ 0) (c p : Value) : DF FF x7 [pt P.r, c, p] h = some (tup [], h) := by
  have c1 : ((x : Int) == 0) = false := beq_eq_false_iff_ne.2 (by omega)
  have : ∃ v h', DF FF x7 [pt P.r, c, p] h = some (v, h') ∧ (v = tup [] ∧ h' = h) := by
    refine wx zd3 ?_
    simp only [za9, ya, zt, ym, zb, zw, yb, zm, zc, zo, zf, ze, zd, List.set_cons_succ, List.set_cons_zero, O_mv, yy, yg, zx, zk, k9, List.cons_append, List.nil_append, List.length_cons, List.length_nil, Nat.reduceAdd, Nat.reduceSub, Nat.zero_add, zn, yc, za, xa, z7, zq, zj, zh, zg, List.getElem?_cons_zero, List.getElem?_cons_succ, wy, eq_self, e.r0, c1, wn, wy]
    exact ⟨trivial, trivial⟩
  obtain ⟨v, h', q, rfl, rfl⟩ := this
  exact q
def zai (P : RP) (i : Nat) : Nat := if i < P.L.length then 22 else 24
def za1 (P : RP) (i : Nat) : Nat := if i < P.L.length then (y3 P i).at_ else P.en
theorem fj (P : RP) (i : Nat) : zai P i ≠ 0 := by unfold zai; split <;> omega
theorem zfl (e : Rd P h i d 0 a) : ∃ h', DF FF qd [pt P.r] h = some (tup [], h') ∧ Rd P h' i d (zai P i) (za1 P i) ∧ Mv P h h' := by
  have : ∃ v h', DF FF qd [pt P.r] h = some (v, h') ∧ (v = tup [] ∧ Rd P h' i d (zai P i) (za1 P i) ∧ Mv P h h') := by
    refine wx zgo ?_
    have hi := e.le
    unfold zai za1
    by_cases hlt : i < P.L.length
    · rw [if_pos hlt, if_pos hlt]
      have c1 : (((P.L.length - i : Nat) : Int) == 0) = false := beq_eq_false_iff_ne.2 (by omega)
      have ha : atV P i = ((y3 P i).at_ : Int) := by unfold atV; rw [if_pos hlt]
      obtain ⟨h', q, r, m⟩ := zje e 22 (y3 P i).at_ (by omega)
      simp only [Int.cast_ofNat_Int] at q
      simp only [pi, ya, zt, zb, zw, yb, zm, zc, zo, zf, ze, zd, List.set_cons_succ, List.set_cons_zero, O_mv, yy, yg, ye, List.map_cons, List.map_nil, zx, zk, k9, List.cons_append, List.nil_append, List.length_cons, List.length_nil, Nat.reduceSub, Nat.zero_add, zn, yc, za, xa, z7, zq, zj, zh, zg, Nat.add_zero, List.getElem?_cons_zero, eq_self, e.r0, zgt e, c1, at_c e, ha, q, wn]
      have f := e.fin r m (tup []) (.inr (.inr (.inl (by omega))))
      rw [f]
      exact ⟨trivial, r, m⟩
    · rw [if_neg hlt, if_neg hlt]
      have c1 : (((P.L.length - i : Nat) : Int) == 0) = true := beq_iff_eq.2 (by omega)
      obtain ⟨h', q, r, m⟩ := zje e 24 P.en (by omega)
      simp only [Int.cast_ofNat_Int] at q
      simp only [pi, ya, zt, zb, zz, yb, zm, zc, zo, zf, ze, zd, List.set_cons_succ, List.set_cons_zero, O_mv, yy, yg, ye, List.map_cons, List.map_nil, zx, zk, k9, List.cons_append, List.nil_append, List.length_cons, List.length_nil, Nat.reduceSub, Nat.zero_add, zn, yc, za, xa, z7, zq, zj, zh, zg, Nat.add_zero, List.getElem?_cons_zero, List.getElem?_cons_succ, eq_self, e.r0, zgt e, c1, q, wn]
      have f := e.fin r m (tup []) (.inr (.inr (.inl (by omega))))
      rw [f]
      exact ⟨trivial, r, m⟩
  obtain ⟨v, h', q, rfl, r⟩ := this
  exact ⟨h', q, r⟩
theorem ye0 (P : RP) (i : Nat) {m : UInt8} (hm : (letV (m.toNat : Int) || (m.toNat : Int) == 95) = false) : (((y3 P i).kind : Int) == 3 && (y3 P i).text == [m]) = (keyT (y3 P i) == [m]) := by
  have hk : (((y3 P i).kind : Int) == 3) = decide ((y3 P i).kind = 3) := by rw [Bool.eq_iff_iff]; simp; omega
  rw [hk]
  unfold y3
  cases hg : P.L[i]? with
  | none => rfl
  | some t =>
    have hmem : t ∈ P.L := List.mem_of_getElem? hg
    simp only [Option.getD_some]
    unfold keyT
    rcases P.ok t hmem with ⟨h1, c, l, h2, h3⟩ | h1 | ⟨h1, c, l, h2, h3⟩
    · have hne : ((c :: l : Bys) == [m]) = false := by
        rw [beq_eq_false_iff_ne]; intro he; cases he; rw [hm] at h3; cases h3
      rw [h2]
      simp only [h1, hne, Nat.reduceEqDiff, decide_false, Bool.false_and, if_false]
    · simp [h1]
    · simp [h1]
theorem is_c (e : Rd P h i d x a) {m : UInt8} (hm : (letV (m.toNat : Int) || (m.toNat : Int) == 95) = false) : DF FF jr [pt P.r, str [m]] h = some (.bool (keyT (y3 P i) == [m]), h) := by
  refine wh zkd ?_
  have hw := zjk e 0 (by omega)
  rw [Nat.add_zero, Int.cast_ofNat_Int] at hw
  rw [← ye0 P i hm]
  cases hk : (((y3 P i).kind : Int) == 3)
  · simp only [zci, ya, xc, zb, yb, zm, yi, zc, zp, vw, zo, zf, ze, zd, List.set_cons_succ, List.set_cons_zero, O_mv, y0, xi, yy, yg, ye, List.map_cons, List.map_nil, zx, zk, k9, List.cons_append, List.nil_append, List.length_cons, List.length_nil, Nat.reduceAdd, Nat.reduceSub, Nat.zero_add, Bool.false_and, zn, yc, za, yp, xa, z7, zl, yr, z6, yu, yo, yh, zu, zr, zh, zg, Nat.add_zero, eq_self, yj, xg, qg, hw, hk]
    rw [zjp ((Pre.refl h).more _) _ _ _ rfl]; simp only [ze, zd, eq_self]
  · simp only [zci, ya, xc, zb, yb, zm, yi, zc, zp, xx, zo, zf, ze, zd, List.set_cons_succ, List.set_cons_zero, O_mv, y0, xi, yy, yg, ye, List.map_cons, List.map_nil, zx, zk, k9, List.cons_append, List.nil_append, List.length_cons, List.length_nil, Nat.reduceAdd, Nat.reduceSub, Nat.zero_add, Bool.true_and, zn, yc, za, yp, xa, z7, zl, yr, z6, yu, yo, yh, zu, zr, zh, zg, Nat.add_zero, eq_self, yj, va, xg, qg, jm, hw, hk]
    rw [zjp ((Pre.refl h).more _) _ _ _ rfl]; simp only [ze, zd, eq_self]
theorem zlk (h : Heap) (m : Bys) : Sl (h ++ [.cells [str m] 0 false]) (.slice (some ⟨h.length, 0, some 0⟩) 1 1) 1 [[str m]] := Sl.last h (by rfl) (by rfl) (by simp) 0 false
theorem ztp (e : Rd P h i d 0 a) {m : Bys} (hm : m ≠ []) : ∃ h', DF FF qb [pt P.r, str m] h = some (tup [], h') ∧ (if keyT (y3 P i) == m then Rd P h' (i + 1) d 0 a else Rd P h' i d (zai P i) (za1 P i)) ∧ Mv P h h' := by
  have : ∃ v h', DF FF qb [pt P.r, str m] h = some (v, h') ∧ (v = tup [] ∧ (if keyT (y3 P i) == m then Rd P h' (i + 1) d 0 a else Rd P h' i d (zai P i) (za1 P i)) ∧ Mv P h h') := by
    refine wx zdu ?_
    obtain ⟨h1, q, r, m1⟩ := zhx (e.more [.cells [str m] 0 false]) hm (zlk h m)
    have m1' : Mv P h h1 := (Mv.add P h [.cells [str m] 0 false]).trans m1
    cases hk : keyT (y3 P i) == m
    · rw [hk] at q r
      rw [if_neg Bool.false_ne_true] at r
      obtain ⟨h2, q2, r2, m2⟩ := zfl r
      simp only [pd, ya, zt, zb, zz, yb, zm, yi, zc, xx, zo, ze, zd, List.set_cons_succ, List.set_cons_zero, O_mv, y0, xi, yg, O_un, ye, List.map_cons, List.map_nil, zx, zk, vf, w7, yd, z8, xe, xf, yx, Nat.lt_add_one, qe, List.cons_append, List.nil_append, List.length_cons, List.length_nil, Nat.reduceAdd, Nat.reduceSub, Nat.zero_add, Bool.not_false, zn, yc, za, slc, xa, z7, zq, zj, zh, zg, List.append_nil, Nat.add_zero, List.getElem?_cons_zero, eq_self, yj, wk, e.r0, ok_0 e, q, q2, wn]
      have f := e.fin r2 (m1'.trans m2) (tup []) (.inr (.inr (.inl (Ne.symm (fj P i)))))
      rw [f]
      exact ⟨trivial, by rw [if_neg Bool.false_ne_true]; exact r2, m1'.trans m2⟩
    · rw [hk] at q r
      rw [if_pos rfl] at r
      simp only [pd, ya, zt, ym, zb, zw, yb, zm, yi, zc, xx, zo, ze, zd, List.set_cons_succ, List.set_cons_zero, O_mv, y0, xi, yg, O_un, ye, List.map_cons, List.map_nil, zx, zk, vf, w7, yd, z8, xe, xf, yx, Nat.lt_add_one, qe, List.cons_append, List.nil_append, List.length_cons, List.length_nil, Nat.reduceAdd, Nat.reduceSub, Nat.zero_add, Bool.not_true, zn, yc, za, slc, xa, z7, zq, zj, zh, zg, List.append_nil, Nat.add_zero, List.getElem?_cons_zero, eq_self, yj, wk, e.r0, ok_0 e, q, wn]
      have f := e.fin r m1' (tup []) (.inl (by omega))
      rw [f]
      exact ⟨trivial, by rw [if_pos trivial]; exact r, m1'⟩
  obtain ⟨v, h', q, rfl, r⟩ := this
  exact ⟨h', q, r⟩
theorem zq7 (e : Rd P h i d x a) (hx : x ≠ 0) (m : Bys) : DF FF qb [pt P.r, str m] h = some (tup [], h) := by
  have : ∃ v h', DF FF qb [pt P.r, str m] h = some (v, h') ∧ (v = tup [] ∧ h' = h) := by
    refine wx zdu ?_
    simp only [pd, ya, zt, ym, zb, zw, yb, zm, yi, zc, vw, zo, zf, ze, zd, List.set_cons_succ, List.set_cons_zero, O_mv, y0, xi, ye, List.map_cons, List.map_nil, List.cons_append, List.nil_append, List.length_cons, List.length_nil, Nat.reduceAdd, Nat.reduceSub, Nat.zero_add, zn, yc, za, zh, zg, wy, eq_self, yj, fe e hx, wn, wy]
    exact ⟨trivial, trivial⟩
  obtain ⟨v, h', q, rfl, rfl⟩ := this
  exact q
theorem ztu (P : RP) (i : Nat) : zbn (y3 P i) = true → i < P.L.length := fun hn => by
  by_cases hlt : i < P.L.length
  · exact hlt
  · rw [j8 hlt] at hn; cases hn
theorem zzh (e : Rd P h i d 0 a) : ∃ w p h', DF FF jv [pt P.r] h = some (tup [str w, .int .i64 p], h') ∧ (if zbn (y3 P i) then w = (y3 P i).text ∧ p = ((y3 P i).at_ : Int) ∧ Rd P h' (i + 1) d 0 a else Rd P h' i d (zai P i) (za1 P i)) ∧ Mv P h h' := by
  have : ∃ v h', DF FF jv [pt P.r] h = some (v, h') ∧ ∃ w p, (v = tup [str w, .int .i64 p] ∧ (if zbn (y3 P i) then w = (y3 P i).text ∧ p = ((y3 P i).at_ : Int) ∧ Rd P h' (i + 1) d 0 a else Rd P h' i d (zai P i) (za1 P i)) ∧ Mv P h h') := by
    refine wx zh6 ?_
    have hw := zjk e 0 (by omega)
    rw [Nat.add_zero, Int.cast_ofNat_Int] at hw
    cases hn : zbn (y3 P i)
    · obtain ⟨h1, q, r, m1⟩ := zfl (e.more [.cells (vy (y3 P i)) 0 false])
      have m1' : Mv P h h1 := (Mv.add P h _).trans m1
      have f := fun v => e.fin r m1' v (.inr (.inr (.inl (Ne.symm (fj P i)))))
      unfold zbn at hn
      cases hk : (((y3 P i).kind : Int) != 1)
      · have hk1 : ((y3 P i).kind == 1) = true := by rw [beq_iff_eq]; have := bne_eq_false_iff_eq.1 hk; omega
        rw [hk1, Bool.true_and, Bool.not_eq_false'] at hn
        simp only [bt, ya, zt, xc, zb, zz, yb, zm, yi, zc, zp, y4, zo, zf, ze, zd, List.set_cons_succ, List.set_cons_zero, O_mv, y0, xi, yy, yg, O_un, ye, List.map_cons, List.map_nil, zx, zk, zse, qe, List.cons_append, List.nil_append, List.length_cons, List.length_nil, Nat.reduceAdd, Nat.reduceSub, Nat.zero_add, Bool.not_true, zn, yc, za, y9, yp, xa, z7, zl, yr, z6, zq, zj, yu, yo, yh, zu, zr, zh, zg, Nat.add_zero, List.getElem?_cons_zero, zfz, eq_self, yj, xg, qg, jm, e.r0, at_c e, hw, ok_0 (e.more _), hk, zb4, hn, q, zfz, f]
        exact ⟨_, _, rfl, by rw [if_neg Bool.false_ne_true]; exact r, m1'⟩
      · simp only [bt, ya, zt, xc, zb, zz, yb, zm, yi, zc, zp, y4, wq, zo, zf, ze, zd, List.set_cons_succ, List.set_cons_zero, O_mv, y0, xi, yy, yg, O_un, ye, List.map_cons, List.map_nil, zx, zk, zse, qe, List.cons_append, List.nil_append, List.length_cons, List.length_nil, Nat.reduceAdd, Nat.reduceSub, Nat.zero_add, Bool.not_true, zn, yc, za, y9, yp, xa, z7, zl, yr, z6, zq, zj, yu, yo, yh, zu, zr, zh, zg, Nat.add_zero, List.getElem?_cons_zero, zfz, eq_self, yj, xg, qg, e.r0, at_c e, hw, ok_0 (e.more _), hk, q, zfz, f]
        exact ⟨_, _, rfl, by rw [if_neg Bool.false_ne_true]; exact r, m1'⟩
    · have hlt := ztu P i hn
      obtain ⟨h1, q, r, m1⟩ := zhp (e.more [.cells (vy (y3 P i)) 0 false]) hlt
      have m1' : Mv P h h1 := (Mv.add P h _).trans m1
      have f := fun v => e.fin r m1' v (.inl (by omega))
      have hr : Heap.read1 h1 ⟨h.length, 1, some 0⟩ = some (str (y3 P i).text) := by
        have hb : (h ++ [AObj.cells (vy (y3 P i)) 0 false])[h.length]? = some (AObj.cells (vy (y3 P i)) 0 false) := by simp
        have := x8 (j := 1) (m1.keep h.length _ hb (by have := e.lr; omega) (by have := e.lc; omega))
        rw [this]; rfl
      unfold zbn at hn
      rw [Bool.and_eq_true, beq_iff_eq, Bool.not_eq_true'] at hn
      have hk : (((y3 P i).kind : Int) != 1) = false := by rw [hn.1]; rfl
      have ha : atV P i = ((y3 P i).at_ : Int) := by unfold atV; rw [if_pos hlt]
      simp only [bt, ya, zt, xc, ym, zb, zw, yb, zm, yi, zc, zp, y4, zo, zf, ze, zd, List.set_cons_succ, List.set_cons_zero, O_mv, y0, xi, yy, yg, O_un, ye, List.map_cons, List.map_nil, zx, zk, zse, qe, List.cons_append, List.nil_append, List.length_cons, List.length_nil, Nat.reduceAdd, Nat.reduceSub, Nat.zero_add, Bool.not_true, zn, yc, za, yp, xa, z7, zl, yr, z6, zq, zj, yu, yo, yh, zu, zr, zh, zg, Nat.add_zero, List.getElem?_cons_zero, zfz, eq_self, yj, xg, qg, jm, e.r0, e.r1, at_c e, hw, ok_0 (e.more _), hk, zb4, hn.2, q, hr, zfz, f, ha]
      exact ⟨_, _, rfl, by rw [if_pos trivial]; exact ⟨rfl, rfl, r⟩, m1'⟩
  obtain ⟨v, h', q, w, p, rfl, r⟩ := this
  exact ⟨w, p, h', q, r⟩
end
theorem ybq (t : Tok) (ht : t = zl4 ∨ zqz t) (h : Heap) : DF FF zfv [agg (vy t)] h = some (.bool (t.kind == 2 || (zbn t || (keyT t == [40] || keyT t == [91]))), h) := by
  refine wh zpz ?_
  have k0 : ∀ n : Nat, ((t.kind : Int) == (n : Int)) = (t.kind == n) := fun n => by rw [Bool.eq_iff_iff]; simp; omega
  have k1 := k0 1; have k2 := k0 2; have k3 := k0 3
  simp only [Int.cast_ofNat_Int] at k1 k2 k3
  have fl : ∀ (b : Bool) (L : Heap), AM.finish h (.bool b) (h ++ L) = h := fun b L => fd h L rfl
  by_cases h1 : t.kind = 1
  · have e1 : (t.kind == 1) = true := by simp [h1]
    have e2 : (t.kind == 2) = false := by simp [h1]
    have e3 : (keyT t == [40] || keyT t == [91]) = false := by
      rcases ht with rfl | ⟨_, c, l, h2, h3⟩ | h2 | ⟨h2, _⟩
      · cases h1
      · unfold keyT; rw [if_neg (by omega), h2]
        cases hc : ((c :: l == [40]) || (c :: l == [91])) with
        | false => rfl
        | true =>
          rcases Bool.or_eq_true_iff.1 hc with hc | hc <;> (have := eq_of_beq hc; cases this; cases h3)
      · omega
      · omega
    simp only [zbf, ya, zt, xc, zb, zz, yb, zm, zc, zo, zf, ze, zd, List.set_cons_succ, List.set_cons_zero, O_mv, yy, yg, O_un, ye, List.map_cons, List.map_nil, zx, zk, k9, qe, List.cons_append, List.nil_append, List.length_cons, List.length_nil, Nat.reduceSub, Nat.zero_add, zn, yc, zy, za, y9, wd, w6, xa, z7, yu, yo, zh, zg, Nat.add_zero, eq_self, yf, zs, yj, xg, qg, jm, yf, zs, k1, e1, zb4]
    rw [zjp ((Pre.refl h).more _) _ _ _ rfl]
    simp only [ze, zd, Bool.false_or, Bool.or_false, Bool.true_and, eq_self, zbn, e1, e2, e3]
  · have e1 : (t.kind == 1) = false := by simp [h1]
    by_cases h3 : t.kind = 3
    · have e3 : (t.kind == 3) = true := by simp [h3]
      have e2 : (t.kind == 2) = false := by simp [h3]
      cases hx : (t.text == [40])
      · simp only [zbf, ya, zt, xc, zb, zz, zw, yb, zm, yi, zc, y4, zo, zf, ze, zd, List.set_cons_succ, List.set_cons_zero, O_mv, y0, xi, yy, yg, zx, zk, k9, List.cons_append, List.nil_append, List.length_cons, List.length_nil, Nat.reduceSub, Nat.zero_add, zn, yc, zy, za, y9, wd, w6, xa, z7, yu, yo, zh, zg, Nat.add_zero, eq_self, yf, zs, yj, va, xg, qg, jm, yf, zs, k1, k3, e1, e3, hx]
        rw [zjp ((Pre.refl h).more _) _ _ _ rfl]
        simp only [ze, zd, Bool.false_or, Bool.false_and, eq_self, zbn, keyT, h3, hx, if_neg (show ¬ (3 : Nat) = 2 by omega), Nat.reduceBEq]
      · simp only [zbf, ya, zt, xc, zb, zz, zw, yb, zm, yi, zc, wq, zo, zf, ze, zd, List.set_cons_succ, List.set_cons_zero, O_mv, y0, xi, yy, yg, zx, zk, k9, List.cons_append, List.nil_append, List.length_cons, List.length_nil, Nat.reduceSub, Nat.zero_add, zn, yc, zy, za, y9, wd, w6, xa, z7, yu, yo, zh, zg, Nat.add_zero, eq_self, yf, zs, yj, va, xg, qg, jm, yf, zs, k1, k3, e1, e3, hx]
        rw [zjp ((Pre.refl h).more _) _ _ _ rfl]
        simp only [ze, zd, Bool.true_or, Bool.or_true, Bool.false_and, eq_self, zbn, keyT, h3, hx, if_neg (show ¬ (3 : Nat) = 2 by omega), Nat.reduceBEq]
    · have e3 : (t.kind == 3) = false := by simp [h3]
      have e4 : (keyT t == [40] || keyT t == [91]) = false := by
        rcases ht with rfl | ⟨h2, _⟩ | h2 | ⟨h2, _⟩
        · rfl
        · omega
        · unfold keyT; rw [if_pos h2]; rfl
        · omega
      simp only [zbf, ya, zt, xc, ym, zb, zw, yb, zm, zc, zo, zf, ze, zd, List.set_cons_succ, List.set_cons_zero, O_mv, yy, yg, zx, zk, k9, List.cons_append, List.nil_append, List.length_cons, List.length_nil, Nat.reduceSub, Nat.zero_add, zn, yc, zy, za, zi, w6, xa, z7, yu, yo, zh, zg, Nat.add_zero, eq_self, yf, zs, yj, xg, qg, yf, zs, k1, k2, k3, e1, e3]
      rw [zjp ((Pre.refl h).more _) _ _ _ rfl]
      simp only [ze, zd, Bool.or_false, Bool.false_and, eq_self, zbn, e1, e4]
end Go.Proofs.YtljdbheclfaloaaGreatDoor.AM
namespace Go.Proofs.YtljdbheclfaloaaGreatDoor.AM
open Go.RowKit
set_option linter.unusedSimpArgs false
set_option linter.unusedVariables false

/-! Words are used up. -/
def Shr (f : List Tok → PR Ex) : Prop := ∀ ts x r, f ts = .ok x r → r.length < ts.length
theorem zuu {part : List Tok → PR Ex} {m : Bys → Option Op2} (hp : Shr part) : ∀ k n ts x r, binL part m k n ts = .ok x r → r.length ≤ ts.length
  | 0, n, ts, x, r, h => by rw [binL] at h; cases h; exact Nat.le_refl _
  | k + 1, n, [], x, r, h => by rw [binL] at h; cases h; exact Nat.le_refl _
  | k + 1, n, t :: ts, x, r, h => by
    rw [binL] at h
    split at h
    · cases h; exact Nat.le_refl _
    · split at h
      · rename_i x' r' hq
        have h1 := hp _ _ _ hq
        have h2 := zuu hp k _ _ _ _ h
        simp only [List.length_cons]; omega
      · cases h
theorem zkz {part : List Tok → PR Ex} {m : Bys → Option Op2} (hp : Shr part) : ∀ k k' n ts, ts.length ≤ k → ts.length ≤ k' → binL part m k n ts = binL part m k' n ts
  | 0, k', n, ts, h, h' => by
    have : ts = [] := List.eq_nil_of_length_eq_zero (by omega)
    subst this
    cases k' <;> rfl
  | k + 1, 0, n, ts, h, h' => by
    have : ts = [] := List.eq_nil_of_length_eq_zero (by omega)
    subst this; rfl
  | k + 1, k' + 1, n, [], h, h' => rfl
  | k + 1, k' + 1, n, t :: ts, h, h' => by
    rw [binL, binL]
    cases m (keyT t) with
    | none => rfl
    | some o =>
      cases hq : part ts with
      | ok x r =>
        have := hp _ _ _ hq
        simp only [List.length_cons] at h h'
        exact zkz hp k k' _ _ (by omega) (by omega)
      | bad c a => rfl
theorem zdk {part : List Tok → PR Ex} {m : Bys → Option Op2} (hp : Shr part) : Shr (zc5 part m) := by
  intro ts x r h
  unfold zc5 at h
  split at h
  · rename_i n r1 hq
    have h1 := hp _ _ _ hq
    have h2 := zuu hp _ _ _ _ _ h
    omega
  · cases h
theorem ybv {e : Nat} {f : List Tok → PR Ex} {ts r : List Tok} {x : Ex} (h : inv3 e f ts = .ok x r) : ∃ ts', ts'.length < ts.length ∧ f ts' = .ok x r := by
  cases ts with
  | nil => cases h
  | cons t ts =>
    rw [inv3] at h
    split at h
    · exact ⟨ts, by simp, h⟩
    · cases h
theorem ya7 {e : Nat} {f : List Tok → PR Ex} {ts r : List Tok} {x : Ex} (h : inv2 e f ts = .ok x r) : ∃ ts', ts'.length < ts.length ∧ f ts' = .ok x r := by
  cases ts with
  | nil => cases h
  | cons t ts =>
    rw [inv2] at h
    split at h
    · obtain ⟨ts', h1, h2⟩ := ybv h; exact ⟨ts', by simp; omega, h2⟩
    · cases h
theorem zvf {e : Nat} {f g : List Tok → PR Ex} {ts : List Tok} (h : ∀ r, r.length < ts.length → f r = g r) : inv3 e f ts = inv3 e g ts := by
  cases ts with
  | nil => rfl
  | cons t ts => rw [inv3, inv3, h ts (by simp)]
theorem zmm {e : Nat} {f g : List Tok → PR Ex} {ts : List Tok} (h : ∀ r, r.length < ts.length → f r = g r) : inv2 e f ts = inv2 e g ts := by
  cases ts with
  | nil => rfl
  | cons t ts => rw [inv2, inv2, zvf fun r hr => h r (by simp; omega)]
theorem zfe (e : Nat) : ∀ k n ts x r, zcr e k n ts = .ok x r → r.length ≤ ts.length
  | 0, n, ts, x, r, h => by rw [zcr] at h; cases h; exact Nat.le_refl _
  | k + 1, n, [], x, r, h => by rw [zcr] at h; cases h; exact Nat.le_refl _
  | k + 1, n, t :: ts, x, r, h => by
    rw [zcr] at h
    split at h
    · have := zfe e k _ _ _ _ h; simp only [List.length_cons]; omega
    split at h
    · have := zfe e k _ _ _ _ h; simp only [List.length_cons]; omega
    split at h
    · have := zfe e k _ _ _ _ h; simp only [List.length_cons]; omega
    split at h
    · obtain ⟨ts', h1, h2⟩ := ya7 h
      have := zfe e k _ _ _ _ h2; simp only [List.length_cons]; omega
    · cases h; exact Nat.le_refl _
theorem zb5 (e : Nat) : ∀ k k' n ts, ts.length ≤ k → ts.length ≤ k' → zcr e k n ts = zcr e k' n ts
  | 0, k', n, ts, h, h' => by
    have : ts = [] := List.eq_nil_of_length_eq_zero (by omega)
    subst this
    cases k' <;> rfl
  | k + 1, 0, n, ts, h, h' => by
    have : ts = [] := List.eq_nil_of_length_eq_zero (by omega)
    subst this; rfl
  | k + 1, k' + 1, n, [], h, h' => rfl
  | k + 1, k' + 1, n, t :: ts, h, h' => by
    simp only [List.length_cons] at h h'
    rw [zcr, zcr]
    rw [zb5 e k k' (.un .plus n) ts (by omega) (by omega), zb5 e k k' (.un .maybe n) ts (by omega) (by omega), zb5 e k k' (.un .star n) ts (by omega) (by omega), zmm fun r hr => zb5 e k k' (.un .inv n) r (by omega) (by omega)]
theorem zp2 {e : Nat} {prim : List Tok → PR Ex} (hp : Shr prim) : Shr (zu3 e prim) := by
  intro ts x r h
  unfold zu3 at h
  split at h
  · rename_i n r1 hq
    have h1 := hp _ _ _ hq
    have h2 := zfe e _ _ _ _ _ h
    omega
  · cases h
theorem zqm {post : List Tok → PR Ex} (hp : Shr post) : Shr (zo9 post) := by
  intro ts x r h
  unfold zo9 at h
  split at h
  · rename_i n hq
    cases h; exact hp _ _ _ hq
  · rename_i n t r1 hq
    have h1 := hp _ _ _ hq
    split at h
    · split at h
      · rename_i m r2 hq2
        have h2 := hp _ _ _ hq2
        cases h
        simp only [List.length_cons] at h1; omega
      · cases h
    · cases h; exact h1
  · cases h
theorem zxb {e : Nat} {cl : Bys} {mk : Ex → Ex} {R : PR Ex} {x : Ex} {r : List Tok} (h : brP e cl mk R = .ok x r) : ∃ n t, R = .ok n (t :: r) ∧ x = mk n ∧ keyT t == cl := by
  cases R with
  | bad c a => cases h
  | ok n r' =>
    rw [brP] at h
    cases r' with
    | nil => cases h
    | cons t r' =>
      rw [zq0] at h
      split at h
      · rename_i hk; cases h; exact ⟨n, t, rfl, rfl, hk⟩
      · cases h
theorem zkr {e : Nat} {inner : Option (List Tok → PR Ex)} (hp : ∀ f, inner = some f → Shr f) : Shr (zpr e inner) := by
  intro ts x r h
  cases ts with
  | nil => cases h
  | cons t ts =>
    rw [zpr] at h
    split at h
    · cases inner with
      | none => cases h
      | some f =>
        have hf := hp f rfl
        rw [brkP] at h
        split at h
        · obtain ⟨n, t2, hq, _, _⟩ := zxb h
          have := hf _ _ _ hq
          simp only [List.length_cons] at this ⊢; omega
        · obtain ⟨n, t2, hq, _, _⟩ := zxb h
          have := hf _ _ _ hq
          simp only [List.length_cons] at this ⊢; omega
    split at h
    · cases h; simp
    split at h
    · cases h; simp
    · cases h
theorem zpy {e : Nat} {prim : List Tok → PR Ex} (hp : Shr prim) : Shr (yac e prim) := zdk (zdk (zdk (zqm (zp2 hp))))
theorem zf1 (e : Nat) : ∀ d, Shr (zkl e d)
  | 0 => zpy (zkr fun f h => by cases h)
  | d + 1 => zpy (zkr fun f h => by cases h; exact zf1 e d)

/-! Trees in memory. -/
abbrev nilP : Value := .pointer none
def zf0 : Bys := [110, 97, 109, 101]
def vm (op w : Bys) (a : Nat) (l r : Value) (s : Bool) : List Value := [str op, str w, .int .i64 (a : Int), l, r, .bool s]
def op1S : Op1 → Bys
  | .plus => [43]
  | .star => [42]
  | .maybe => [63]
  | .inv => [94]
def op2S : Op2 → Bys
  | .or => [124]
  | .and => [38]
  | .minus => [92]
  | .seq => [59]
  | .cross => [120]
def TreeP (h : Heap) : (Nat → Prop) → Value → Ex → Prop
  | S, v, .name s a w => ∃ b, v = pt b ∧ S b ∧ h[b]? = some (.cells (vm zf0 w a nilP nilP s) 0 false)
  | S, v, .zero a => ∃ b, v = pt b ∧ S b ∧ h[b]? = some (.cells (vm [48] [] a nilP nilP false) 0 false)
  | S, v, .par s a e => ∃ b S' x, v = pt b ∧ S b ∧ h[b]? = some (.cells (vm [40] [] a x nilP s) 0 false) ∧ TreeP h S' x e ∧ ∀ y, S' y → S y ∧ y ≠ b
  | S, v, .box a e => ∃ b S' x, v = pt b ∧ S b ∧ h[b]? = some (.cells (vm [91] [] a x nilP false) 0 false) ∧ TreeP h S' x e ∧ ∀ y, S' y → S y ∧ y ≠ b
  | S, v, .un o e => ∃ b S' x, v = pt b ∧ S b ∧ h[b]? = some (.cells (vm (op1S o) [] e.pl x nilP false) 0 false) ∧ TreeP h S' x e ∧ ∀ y, S' y → S y ∧ y ≠ b
  | S, v, .bin s o l r => ∃ b S1 S2 x y, v = pt b ∧ S b ∧ h[b]? = some (.cells (vm (op2S o) [] l.pl x y s) 0 false) ∧ TreeP h S1 x l ∧ TreeP h S2 y r ∧ (∀ z, S1 z → S z ∧ z ≠ b ∧ ¬ S2 z) ∧ ∀ z, S2 z → S z ∧ z ≠ b
theorem TreeP.keep {h h' : Heap} : ∀ {S : Nat → Prop} {v : Value} {e : Ex}, TreeP h S v e → (∀ b o, S b → h[b]? = some o → h'[b]? = some o) → TreeP h' S v e
  | S, v, .name s a w, t, k => by obtain ⟨b, hv, hb, ho⟩ := t; exact ⟨b, hv, hb, k b _ hb ho⟩
  | S, v, .zero a, t, k => by obtain ⟨b, hv, hb, ho⟩ := t; exact ⟨b, hv, hb, k b _ hb ho⟩
  | S, v, .par s a e, t, k => by obtain ⟨b, S', x, hv, hb, ho, t', hs⟩ := t; exact ⟨b, S', x, hv, hb, k b _ hb ho, t'.keep (fun c o hc => k c o (hs c hc).1), hs⟩
  | S, v, .box a e, t, k => by obtain ⟨b, S', x, hv, hb, ho, t', hs⟩ := t; exact ⟨b, S', x, hv, hb, k b _ hb ho, t'.keep (fun c o hc => k c o (hs c hc).1), hs⟩
  | S, v, .un o' e, t, k => by obtain ⟨b, S', x, hv, hb, ho, t', hs⟩ := t; exact ⟨b, S', x, hv, hb, k b _ hb ho, t'.keep (fun c o hc => k c o (hs c hc).1), hs⟩
  | S, v, .bin s o' l r, t, k => by
    obtain ⟨b, S1, S2, x, y, hv, hb, ho, t1, t2, hs1, hs2⟩ := t
    exact ⟨b, S1, S2, x, y, hv, hb, k b _ hb ho, t1.keep (fun c o hc => k c o (hs1 c hc).1), t2.keep (fun c o hc => k c o (hs2 c hc).1), hs1, hs2⟩
theorem TreeP.weak {h : Heap} {S S' : Nat → Prop} (hs : ∀ b, S b → S' b) : ∀ {v : Value} {e : Ex}, TreeP h S v e → TreeP h S' v e
  | v, .name s a w, t => by obtain ⟨b, hv, hb, ho⟩ := t; exact ⟨b, hv, hs b hb, ho⟩
  | v, .zero a, t => by obtain ⟨b, hv, hb, ho⟩ := t; exact ⟨b, hv, hs b hb, ho⟩
  | v, .par s a e, t => by obtain ⟨b, T, x, hv, hb, ho, t', h'⟩ := t; exact ⟨b, T, x, hv, hs b hb, ho, t', fun y hy => ⟨hs y (h' y hy).1, (h' y hy).2⟩⟩
  | v, .box a e, t => by obtain ⟨b, T, x, hv, hb, ho, t', h'⟩ := t; exact ⟨b, T, x, hv, hs b hb, ho, t', fun y hy => ⟨hs y (h' y hy).1, (h' y hy).2⟩⟩
  | v, .un o e, t => by obtain ⟨b, T, x, hv, hb, ho, t', h'⟩ := t; exact ⟨b, T, x, hv, hs b hb, ho, t', fun y hy => ⟨hs y (h' y hy).1, (h' y hy).2⟩⟩
  | v, .bin s o l r, t => by
    obtain ⟨b, S1, S2, x, y, hv, hb, ho, t1, t2, hs1, hs2⟩ := t
    exact ⟨b, S1, S2, x, y, hv, hs b hb, ho, t1, t2, fun z hz => ⟨hs z (hs1 z hz).1, (hs1 z hz).2⟩, fun z hz => ⟨hs z (hs2 z hz).1, (hs2 z hz).2⟩⟩
theorem TreeP.root {h : Heap} {S : Nat → Prop} {v : Value} {e : Ex} (t : TreeP h S v e) : ∃ b op w l r, v = pt b ∧ S b ∧ h[b]? = some (.cells (vm op w e.pl l r e.set) 0 false) := by
  cases e with
  | name s a w => obtain ⟨b, hv, hb, ho⟩ := t; exact ⟨b, _, _, _, _, hv, hb, ho⟩
  | zero a => obtain ⟨b, hv, hb, ho⟩ := t; exact ⟨b, _, _, _, _, hv, hb, ho⟩
  | par s a e => obtain ⟨b, T, x, hv, hb, ho, t', h'⟩ := t; exact ⟨b, _, _, _, _, hv, hb, ho⟩
  | box a e => obtain ⟨b, T, x, hv, hb, ho, t', h'⟩ := t; exact ⟨b, _, _, _, _, hv, hb, ho⟩
  | un o e => obtain ⟨b, T, x, hv, hb, ho, t', h'⟩ := t; exact ⟨b, _, _, _, _, hv, hb, ho⟩
  | bin s o l r => obtain ⟨b, S1, S2, x, y, hv, hb, ho, _⟩ := t; exact ⟨b, _, _, _, _, hv, hb, ho⟩
def Iv (lo hi : Nat) : Nat → Prop := fun b => lo ≤ b ∧ b < hi
end Go.Proofs.YtljdbheclfaloaaGreatDoor.AM
namespace Go.Proofs.YtljdbheclfaloaaGreatDoor.AM
open Go.RowKit
set_option linter.unusedSimpArgs false
set_option linter.unusedVariables false

def ExR (P : RP) (h : Heap) (d : Nat) (v : Value) (h' : Heap) : PR Ex → Prop
  | .ok n r => ∃ i, r = P.L.drop i ∧ Rd P h' i d 0 0 ∧ TreeP h' (Iv h.length h'.length) v n ∧ Mv P h h'
  | .bad c p => c ≠ 0 ∧ (∃ i, Rd P h' i d c p) ∧ Mv P h h' ∧ ∃ b, v = pt b
def zcc (P : RP) (F : FuncId) (d : Nat) (f : List Tok → PR Ex) : Prop := ∀ h i, Rd P h i d 0 0 → ∃ v h', DF FF F [pt P.r] h = some (v, h') ∧ ExR P h d v h' (f (P.L.drop i))
def zss (P : RP) (F : FuncId) : Prop := ∀ h i d c p, Rd P h i d c p → c ≠ 0 → ∃ b h', DF FF F [pt P.r] h = some (pt b, h') ∧ Rd P h' i d c p ∧ Mv P h h'
theorem ExR.ptr {P : RP} {h h' : Heap} {d : Nat} {v : Value} {R : PR Ex} (e : ExR P h d v h' R) : ∃ b, v = pt b := by
  cases R with
  | ok n r => obtain ⟨i, _, _, t, _⟩ := e; obtain ⟨b, _, _, _, _, hv, _⟩ := t.root; exact ⟨b, hv⟩
  | bad c p => exact e.2.2.2
theorem k8 (h H : Heap) (b : Nat) : AM.finish h (pt b) H = H := zgc h rfl H
theorem gz {P : RP} {k : Nat} (hk : k < P.L.length) : P.L.drop k = y3 P k :: P.L.drop (k + 1) := by
  rw [List.drop_eq_getElem_cons hk]; unfold y3; rw [List.getElem?_eq_getElem hk]; rfl
theorem ztj (P : RP) (k : Nat) : y3 P k = zl4 ∨ zqz (y3 P k) := by
  by_cases hk : k < P.L.length
  · right; unfold y3; rw [List.getElem?_eq_getElem hk]; exact P.ok _ (List.getElem_mem hk)
  · left; exact j8 hk
def MarksOk (mks : List Bys) (mo : Bys → Option Op2) : Prop := mo [] = none ∧ mks.length < 10 ∧ ∀ t : Tok, zqz t → (((t.kind : Int) == 3) && mks.contains t.text) = (mo (keyT t)).isSome ∧ ∀ o, mo (keyT t) = some o → op2S o = t.text
theorem MarksOk.at {mks : List Bys} {mo : Bys → Option Op2} (m : MarksOk mks mo) (P : RP) (k : Nat) : (((((y3 P k).kind : Int) == 3) && mks.contains (y3 P k).text) = (mo (keyT (y3 P k))).isSome) ∧ ∀ o, mo (keyT (y3 P k)) = some o → op2S o = (y3 P k).text ∧ k < P.L.length := by
  by_cases hk : k < P.L.length
  · rcases ztj P k with h | h
    · rw [h]
      rw [zew, m.1]
      exact ⟨rfl, fun o ho => by cases ho⟩
    · exact ⟨(m.2.2 _ h).1, fun o ho => ⟨(m.2.2 _ h).2 o ho, hk⟩⟩
  · rw [j8 hk, zew, m.1]
    exact ⟨rfl, fun o ho => by cases ho⟩
set_option maxHeartbeats 1000000 in
theorem zl0 {P : RP} {F : FuncId} {d : Nat} {part : List Tok → PR Ex} {mks : List Bys} {mo : Bys → Option Op2} (hF : zcc P F d part) (hs : Shr part) (hm : MarksOk mks mo) {h : Heap} {i : Nat} (e : Rd P h i d 0 0) {ms : Value} (hms : Sl h ms 1 (mks.map ze0)) (br : blk ms ≠ some P.r) (bc : blk ms ≠ some P.c) :
    ∃ v h', DF FF jc [pt P.r, .func (.func F) [pt P.r].toArray [].toArray, ms] h = some (v, h') ∧ ExR P h d v h' (zc5 part mo (P.L.drop i)) := by
  refine wx zbu ?_
  obtain ⟨v0, h0, q0, x0⟩ := hF h i e
  simp only [ph, ya, zb, yb, zm, zc, zo, zf, ze, zd, List.set_cons_succ, List.set_cons_zero, O_mv, List.map_nil, List.cons_append, List.nil_append, List.length_cons, List.length_nil, Nat.reduceAdd, Nat.reduceSub, Nat.zero_add, zn, yc, zy, za, zh, zg, List.append_nil, yj, bn, jl, q0]
  obtain ⟨R, hR⟩ : ∃ R, R = zc5 part mo (P.L.drop i) := ⟨_, rfl⟩
  rw [← hR]
  refine zi0 (fun m st => (∃ (K : Heap) (k : Nat) (n : Ex) (v : Value) (j : Nat → Value), m = P.L.length - k + 1 ∧ Rd P K k d 0 0 ∧ TreeP K (Iv h.length K.length) v n ∧ Mv P h K ∧ binL part mo P.L.length n (P.L.drop k) = R ∧ st = ⟨[pt P.r, .func (.func F) [pt P.r].toArray [].toArray, ms, j 3, j 4, j 5, j 6, v, j 8, j 9, j 10, j 11, j 12, j 13, j 14, j 15, j 16, j 17, j 18, j 19, j 20, j 21, j 22, j 23, j 24, j 25, j 26, j 27, j 28, j 29, j 30, j 31, j 32, j 33, j 34, j 35, j 36, j 37, j 38, j 39, j 40, j 41, j 42, j 43, j 44, j 45, j 46], K⟩) ∨
    (∃ (K : Heap) (k c p b : Nat) (j : Nat → Value), m = 0 ∧ R = .bad c p ∧ c ≠ 0 ∧ Rd P K k d c p ∧ Mv P h K ∧ st = ⟨[pt P.r, .func (.func F) [pt P.r].toArray [].toArray, ms, j 3, j 4, j 5, j 6, pt b, j 8, j 9, j 10, j 11, j 12, j 13, j 14, j 15, j 16, j 17, j 18, j 19, j 20, j 21, j 22, j 23, j 24, j 25, j 26, j 27, j 28, j 29, j 30, j 31, j 32, j 33, j 34, j 35, j 36, j 37, j 38, j 39, j 40, j 41, j 42, j 43, j 44, j 45, j 46], K⟩)) ?_ (match part (P.L.drop i) with | .ok n r => r.length + 1 | .bad c p => 0) _ ?_
  · rintro m st (⟨K, k, n, v, j, rfl, eK, tK, mK, hb, rfl⟩ | ⟨K, k, c, p, b, j, rfl, hb, hc, eK, mK, rfl⟩)
    · have hw := zjk eK 0 (by omega)
      rw [Nat.add_zero, Int.cast_ofNat_Int] at hw
      have hmsK : Sl K ms 1 (mks.map ze0) := hms.keep fun b hb o ho => mK.keep b o ho (by rintro rfl; exact br hb) (by rintro rfl; exact bc hb)
      have hct := zmq mks (y3 P k).text hmsK (by have := hm.2.1; omega)
      obtain ⟨hm1, hm2⟩ := hm.at P k
      have lr := e.lr; have lc := e.lc
      cases ho : mo (keyT (y3 P k)) with
      | none =>
        rw [ho, Option.isSome_none] at hm1
        have hend : R = .ok n (P.L.drop k) := by
          rw [← hb]
          by_cases hk : k < P.L.length
          · rw [gz hk]
            obtain ⟨q, hq⟩ : ∃ q, P.L.length = q + 1 := ⟨P.L.length - 1, by omega⟩
            rw [hq, binL, ho]
          · rw [List.drop_eq_nil_of_le (by omega)]; cases P.L.length <;> rfl
        have hv := tK.root
        obtain ⟨b, _, _, _, _, rfl, _⟩ := hv
        cases hk3 : (((y3 P k).kind : Int) == 3)
        · simp only [ya, zt, vj, xc, zb, zw, yb, zm, yi, zc, xx, vw, zo, zf, ze, zd, List.set_cons_succ, List.set_cons_zero, O_mv, y0, xi, yy, yg, ye, List.map_cons, List.map_nil, k9, zn, yc, za, yz, yk, py, zga, zb7, wg, qg, ok_0 eK, hw, hk3, wg, k8, qg, zb7, zga]
          rw [hend]
          exact ⟨k, rfl, eK, tK, mK⟩
        · rw [hk3, Bool.true_and] at hm1
          simp only [ya, zt, vj, xc, zb, zw, yb, zm, yi, zc, xx, zo, zf, ze, zd, List.set_cons_succ, List.set_cons_zero, O_mv, y0, xi, yy, yg, ye, List.map_cons, List.map_nil, k9, zn, yc, za, yz, yk, py, zga, zb7, wg, qg, jm, ok_0 eK, hw, hk3, hct, hm1, wg, k8, qg, jm, zb7, zga]
          rw [hend]
          exact ⟨k, rfl, eK, tK, mK⟩
      | some o =>
        obtain ⟨ho2, hk⟩ := hm2 o ho
        rw [ho, Option.isSome_some, Bool.and_eq_true] at hm1
        obtain ⟨hk3, hk4⟩ := hm1
        obtain ⟨K1, q1, e1, m1⟩ := zhp eK hk
        obtain ⟨v2, K2, q2, x2⟩ := hF (K1 ++ [.cells (vy (y3 P k)) 0 false]) (k + 1) (e1.more _)
        obtain ⟨b, op, w, l, r, rfl, hbS, hbo⟩ := tK.root
        have hstep : R = match part (P.L.drop (k + 1)) with
            | .ok x r' => binL part mo P.L.length (.bin false o n x) r'
            | .bad c a => .bad c a := by
          rw [← hb, gz hk]
          obtain ⟨q, hq⟩ : ∃ q, P.L.length = q + 1 := ⟨P.L.length - 1, by omega⟩
          rw [hq, binL, ho]
          simp only
          cases hp : part (P.L.drop (k + 1)) with
          | bad c a => rfl
          | ok x r' =>
            have := hs _ _ _ hp
            simp only [List.length_drop] at this
            exact zkz hs _ _ _ _ (by omega) (by omega)
        obtain ⟨b2, rfl⟩ := x2.ptr
        have m12 : Mv P K K2 := (m1.more _).trans (by
          cases hp : part (P.L.drop (k + 1)) with
          | ok x r' => rw [hp] at x2; obtain ⟨_, _, _, _, m⟩ := x2; exact m
          | bad c a => rw [hp] at x2; exact x2.2.2.1)
        have mx : Mv P (K1 ++ [.cells (vy (y3 P k)) 0 false]) K2 := by
          cases hp : part (P.L.drop (k + 1)) with
          | ok x r' => rw [hp] at x2; obtain ⟨_, _, _, _, m⟩ := x2; exact m
          | bad c a => rw [hp] at x2; exact x2.2.2.1
        have hn1 : (K1 ++ [.cells (vy (y3 P k)) 0 false])[b]? = some (.cells (vm op w n.pl l r n.set) 0 false) := y6 _ (m1.keep b _ hbo (by have := hbS.1; omega) (by have := hbS.1; omega))
        have hn2 : K2[b]? = some (.cells (vm op w n.pl l r n.set) 0 false) := m12.keep b _ hbo (by have := hbS.1; omega) (by have := hbS.1; omega)
        have ht2 : K2[K1.length]? = some (.cells (vy (y3 P k)) 0 false) := mx.keep _ _ (by simp) (by have := e1.lr; omega) (by have := e1.lc; omega)
        have r1 : ∀ j, Heap.read1 (K1 ++ [.cells (vy (y3 P k)) 0 false]) ⟨b, j, some 0⟩ = (vm op w n.pl l r n.set)[j]? := fun j => x8 hn1
        have r2 : Heap.read1 K2 ⟨b, 2, some 0⟩ = some (.int .i64 (n.pl : Int)) := x8 hn2
        have r3 : Heap.read1 K2 ⟨K1.length, 1, some 0⟩ = some (str (y3 P k).text) := x8 ht2
        have a1 : zbo K2 (.pointer (some ⟨K1.length, 1, some 0⟩)) (str (y3 P k).text) = some (undef, K2) := bw r3 rfl
        have a2 : zbo K2 (.pointer (some ⟨b, 2, some 0⟩)) (.int .i64 (n.pl : Int)) = some (undef, K2) := bw r2 rfl
        have r1' : (vm op w n.pl l r n.set)[2]? = some (.int .i64 (n.pl : Int)) := rfl
        simp only [ya, zt, ym, zb, zz, yb, zm, yi, zc, zp, xx, zo, zf, ze, zd, List.set_cons_succ, List.set_cons_zero, O_mv, y0, xi, yy, yg, ye, List.map_cons, List.map_nil, zx, zk, x9, y7, yd, z8, yx, wt, Nat.zero_lt_succ, Nat.reduceLT, k9, List.length_cons, List.length_nil, Nat.reduceAdd, Nat.zero_add, zn, yc, zy, za, zi, vz, yp, w6, xa, z7, zga, zb7, xj, y8, zl, yr, z6, zq, zj, yu, yo, yh, zu, zr, List.append_nil, Nat.add_zero, List.getElem?_cons_zero, List.getElem?_cons_succ, eq_self, yf, zs, zcw, wk, f8, xg, qg, jm, ok_0 eK, hw, hk3, hct, hk4, qg, jm, zb7, zga, eK.r0, q1, bn, jl, q2, r1, r1', a1, a2, yf, zs]
        cases hp : part (P.L.drop (k + 1)) with
        | ok x r' =>
          rw [hp] at x2 hstep
          obtain ⟨k', rfl, e2, t2, _⟩ := x2
          have hlt := hs _ _ _ hp
          simp only [List.length_drop] at hlt
          refine ⟨P.L.length - k' + 1, by have := e2.le; omega, .inl ⟨_, k', .bin false o n x, _, (junk rfl).elim fun j hj => ⟨j, rfl, e2.more _, ?_, (mK.trans m12).more _, hstep.symm, hj⟩⟩⟩
          have l1 := m12.le; have l0 := mK.le; have lm := m1.le
          have lx : K1.length + 1 ≤ K2.length := by have := mx.le; simpa using this
          refine ⟨K2.length, Iv h.length K.length, Iv (K1.length + 1) K2.length, pt b, pt b2, rfl, ⟨by omega, by simp⟩, ?_, ?_, ?_, ?_, ?_⟩
          · rw [ho2]; simp [vm]
          · exact (tK.keep fun c o hc ho => m12.keep c o ho (by have := hc.1; omega) (by have := hc.1; omega)).keep fun c o hc ho => y6 _ ho
          · have : (K1 ++ [AObj.cells (vy (y3 P k)) 0 false]).length = K1.length + 1 := by simp
            rw [this] at t2
            exact t2.keep fun c o hc ho => y6 _ ho
          · intro z hz
            have := hz.1; have := hz.2
            exact ⟨⟨by omega, by simp; omega⟩, by omega, fun h3 => by have := h3.1; omega⟩
          · intro z hz
            have := hz.1; have := hz.2
            exact ⟨⟨by omega, by simp; omega⟩, by omega⟩
        | bad c a =>
          rw [hp] at x2 hstep
          obtain ⟨hc, ⟨k', e2⟩, _, _⟩ := x2
          exact ⟨0, by omega, .inr ⟨_, k', c, a, _, (junk rfl).elim fun j hj => ⟨j, rfl, hstep, hc, e2.more _, (mK.trans m12).more _, hj⟩⟩⟩
    · simp only [ya, zt, vj, xc, zb, zw, yb, zm, yi, zc, vw, zo, zf, ze, zd, List.set_cons_succ, List.set_cons_zero, O_mv, y0, xi, ye, List.map_cons, List.map_nil, zn, yc, za, yz, yk, py, wg, fe eK hc, wg, k8]
      rw [hb]
      exact ⟨hc, ⟨k, eK⟩, mK, _, rfl⟩
  · unfold zc5 at hR
    cases hp : part (P.L.drop i) with
    | ok n r =>
      rw [hp] at x0 hR
      obtain ⟨k, rfl, e0, t0, m0⟩ := x0
      have hlt := hs _ _ _ hp
      simp only [List.length_drop] at hlt
      left
      refine ⟨h0, k, n, v0, (junk rfl).elim fun j hj => ⟨j, by simp, e0, t0, m0, ?_, hj⟩⟩
      rw [hR]
      exact zkz hs _ _ _ _ (by simp) (Nat.le_refl _)
    | bad c p =>
      rw [hp] at x0 hR
      obtain ⟨hc, ⟨k, e0⟩, m0, b, rfl⟩ := x0
      right
      exact ⟨h0, k, c, p, b, (junk rfl).elim fun j hj => ⟨j, rfl, hR, hc, e0, m0, hj⟩⟩
end Go.Proofs.YtljdbheclfaloaaGreatDoor.AM
namespace Go.Proofs.YtljdbheclfaloaaGreatDoor.AM
open Go.RowKit
set_option linter.unusedSimpArgs false
set_option linter.unusedVariables false

theorem zeo {t : Tok} {m : Bys} (hm : m ≠ []) (h : (keyT t == m) = true) : t.text = m ∧ t.kind ≠ 2 := by
  unfold keyT at h
  by_cases h2 : t.kind = 2
  · rw [if_pos h2] at h; exact absurd (by simpa using h) hm
  · rw [if_neg h2] at h; exact ⟨by simpa using h, h2⟩
theorem zm5 {P : RP} {k : Nat} {m : Bys} (hm : m ≠ []) (h : (keyT (y3 P k) == m) = true) : k < P.L.length := by
  by_cases hk : k < P.L.length
  · exact hk
  · rw [j8 hk, zew] at h; exact absurd (by simpa using h) hm
theorem zvz (P : RP) (k : Nat) : zk2 (P.L.drop k) = ((y3 P k).kind == 2 || (zbn (y3 P k) || (keyT (y3 P k) == [40] || keyT (y3 P k) == [91]))) := by
  by_cases hk : k < P.L.length
  · rw [gz hk]; rfl
  · rw [List.drop_eq_nil_of_le (by omega), j8 hk]; rfl
theorem yek (P : RP) (f : List Tok → PR Ex) (k : Nat) : inv2 P.en f (P.L.drop k) = if keyT (y3 P k) == [45] then inv3 P.en f (P.L.drop (k + 1)) else .bad (zai P k) (za1 P k) := by
  unfold zai za1
  by_cases hk : k < P.L.length
  · rw [gz hk, inv2, if_pos hk, if_pos hk]
  · rw [List.drop_eq_nil_of_le (by omega), j8 hk, if_neg hk, if_neg hk]; rfl
theorem yd0 (P : RP) (f : List Tok → PR Ex) (k : Nat) : inv3 P.en f (P.L.drop k) = if (y3 P k).kind == 2 && (y3 P k).n == 1 then f (P.L.drop (k + 1)) else .bad (zai P k) (za1 P k) := by
  unfold zai za1
  by_cases hk : k < P.L.length
  · rw [gz hk, inv3, if_pos hk, if_pos hk]
  · rw [List.drop_eq_nil_of_le (by omega), j8 hk, if_neg hk, if_neg hk]; rfl
theorem yen (P : RP) (n : Ex) (k : Nat) : zcr P.en P.L.length n (P.L.drop k) = if keyT (y3 P k) == [43] then zcr P.en P.L.length (.un .plus n) (P.L.drop (k + 1))
    else if keyT (y3 P k) == [63] then zcr P.en P.L.length (.un .maybe n) (P.L.drop (k + 1))
    else if keyT (y3 P k) == [42] && !zk2 (P.L.drop (k + 1)) then zcr P.en P.L.length (.un .star n) (P.L.drop (k + 1))
    else if keyT (y3 P k) == [94] then inv2 P.en (fun r => zcr P.en P.L.length (.un .inv n) r) (P.L.drop (k + 1))
    else .ok n (P.L.drop k) := by
  by_cases hk : k < P.L.length
  · obtain ⟨q, hq⟩ : ∃ q, P.L.length = q + 1 := ⟨P.L.length - 1, by omega⟩
    have f : ∀ (x : Ex) (r : List Tok), r.length < P.L.length - k → zcr P.en q x r = zcr P.en (q + 1) x r := fun x r hr => zb5 _ _ _ _ _ (by omega) (by omega)
    have hl : (P.L.drop (k + 1)).length < P.L.length - k := by simp; omega
    rw [gz hk, hq, zcr, f _ _ hl, f _ _ hl, f _ _ hl, zmm fun r hr => f (.un .inv n) r (by omega)]
  · rw [List.drop_eq_nil_of_le (by omega), j8 hk]
    cases P.L.length <;> rfl
theorem zjw (t : Tok) : ((t.kind : Int) == 2) = (t.kind == 2) := by rw [Bool.eq_iff_iff]; simp; omega
theorem zxl {h K : Heap} {b : Nat} {n : Ex} {o : Op1} (t : TreeP K (Iv h.length K.length) (pt b) n) {L : Heap} {j : Nat} (hL : L[j]? = some (.cells (vm (op1S o) [] n.pl (pt b) nilP false) 0 false)) (hh : h.length ≤ K.length) : TreeP (K ++ L) (Iv h.length (K ++ L).length) (pt (K.length + j)) (.un o n) := by
  have hj := (List.getElem?_eq_some_iff.1 hL).1
  refine ⟨K.length + j, Iv h.length K.length, pt b, rfl, ⟨by omega, by simp; omega⟩, ?_, t.keep fun c o _ ho => y6 _ ho, fun y hy => ⟨⟨hy.1, by have := hy.2; simp; omega⟩, by have := hy.2; omega⟩⟩
  rw [List.getElem?_append_right (by omega), Nat.add_sub_cancel_left]; exact hL
def BehS (P : RP) (h : Heap) (d : Nat) (R : PR Ex) (m : Nat) (K : Heap) (k : Nat) (v : Value) : Prop :=
  (∃ n, m = P.L.length - k + 1 ∧ Rd P K k d 0 0 ∧ TreeP K (Iv h.length K.length) v n ∧ Mv P h K ∧ zcr P.en P.L.length n (P.L.drop k) = R) ∨
  (∃ c p b, m = 0 ∧ v = pt b ∧ R = .bad c p ∧ c ≠ 0 ∧ Rd P K k d c p ∧ Mv P h K)
def BehI (P : RP) (h : Heap) (d : Nat) (R : PR Ex) (m : Nat) (st : St) : Prop := ∃ K k v, (∃ j : Nat → Value, st = ⟨[pt P.r, j 1, .pointer none, v, j 4, j 5, j 6, j 7, j 8, j 9, j 10, j 11, j 12, j 13, j 14, j 15, j 16, j 17, j 18, j 19, j 20, j 21, j 22, j 23, j 24, j 25, j 26, j 27, j 28, j 29, j 30, j 31, j 32, j 33, j 34, j 35, j 36, j 37, j 38, j 39, j 40, j 41, j 42, j 43, j 44, j 45, j 46, j 47, j 48, j 49, j 50, j 51, j 52, j 53, j 54, j 55, j 56, j 57, j 58, j 59, j 60, j 61, j 62, j 63, j 64, j 65, j 66, j 67, j 68, j 69, j 70, j 71, j 72, j 73, j 74, j 75, j 76, j 77, j 78, j 79, j 80, j 81, j 82, j 83, j 84, j 85, j 86], K⟩) ∧ BehS P h d R m K k v
theorem fz (op w : Bys) (a : Nat) (l r : Value) (s : Bool) : (vm op w a l r s)[2]? = some (.int .i64 (a : Int)) := rfl
set_option maxHeartbeats 2000000 in
theorem ybr {P : RP} {d : Nat} {prim : List Tok → PR Ex} (hF : zcc P gm d prim) (hs : Shr prim) : zcc P ji d (zu3 P.en prim) := by
  intro h i e
  refine wx zco ?_
  obtain ⟨v0, h0, q0, x0⟩ := hF h i e
  simp only [px, ya, zb, yb, zm, zc, zo, zf, ze, zd, List.set_cons_succ, List.set_cons_zero, O_mv, ye, List.map_cons, List.map_nil, List.cons_append, List.nil_append, List.length_cons, List.length_nil, Nat.reduceSub, Nat.zero_add, zn, yc, zy, za, zh, zg, yj, q0]
  obtain ⟨R, hR⟩ : ∃ R, R = zu3 P.en prim (P.L.drop i) := ⟨_, rfl⟩
  rw [← hR]
  have lr := e.lr; have lc := e.lc
  refine zi0 (BehI P h d R) ?_ (match prim (P.L.drop i) with | .ok n r => r.length + 1 | .bad c p => 0) _ ?_
  · rintro m st ⟨K, k, v, ⟨j, rfl⟩, ⟨n, rfl, eK, tK, mK, hb⟩ | ⟨c, p, b, rfl, rfl, hb, hc, eK, mK⟩⟩
    · have i43 := is_c eK (m := 43) (by decide)
      have i63 := is_c eK (m := 63) (by decide)
      have i42 := is_c eK (m := 42) (by decide)
      have i94 := is_c eK (m := 94) (by decide)
      have hw1 := zjk eK 1 (by omega)
      simp only [Int.cast_ofNat_Int] at hw1
      have hbg := ybq (y3 P (k + 1)) (ztj P (k + 1)) K
      rw [← zvz] at hbg
      obtain ⟨b, op, w, l, r, rfl, hbS, hbo⟩ := tK.root
      have l0 := mK.le
      rw [yen] at hb
      -- one mark behind
      have one : ∀ (o : Op1), (keyT (y3 P k) == op1S o) = true → R = zcr P.en P.L.length (.un o n) (P.L.drop (k + 1)) →
          ∃ K1, DF FF wv [pt P.c] K = some (tup [agg (vy (y3 P k)), .bool true], K1) ∧ (y3 P k).text = op1S o ∧ (∀ j, Heap.read1 (K1 ++ [.cells (vy (y3 P k)) 0 false]) ⟨b, j, some 0⟩ = (vm op w n.pl l r n.set)[j]?) ∧
            ∃ m', m' < P.L.length - k + 1 ∧ BehS P h d R m' (K1 ++ [.cells (vy (y3 P k)) 0 false, .cells (vm (op1S o) [] n.pl (pt b) nilP false) 0 false]) (k + 1) (pt (K1.length + 1)) := by
        intro o hk hR2
        have hne : op1S o ≠ [] := by cases o <;> simp [op1S]
        have hlt := zm5 hne hk
        obtain ⟨K1, q1, e1, m1⟩ := zhp eK hlt
        have tn1 : TreeP K1 (Iv h.length K1.length) (pt b) n := (tK.keep fun c o hc ho => m1.keep c o ho (by have := hc.1; omega) (by have := hc.1; omega)).weak fun c hc => ⟨hc.1, by have := hc.2; have := m1.le; omega⟩
        refine ⟨K1, q1, (zeo hne hk).1, fun j => x8 (y6 _ (m1.keep b _ hbo (by have := hbS.1; omega) (by have := hbS.1; omega))), P.L.length - (k + 1) + 1, by omega, .inl ⟨.un o n, rfl, e1.more _, ?_, (mK.trans m1).more _, hR2.symm⟩⟩
        exact zxl tn1 (L := [.cells (vy (y3 P k)) 0 false, .cells (vm (op1S o) [] n.pl (pt b) nilP false) 0 false]) (j := 1) rfl (by have := m1.le; omega)
      cases k43 : (keyT (y3 P k) == [43])
      · cases k63 : (keyT (y3 P k) == [63])
        · cases k42 : (keyT (y3 P k) == [42] && !zk2 (P.L.drop (k + 1)))
          · rw [k43, k63, k42] at hb
            simp only [Bool.false_eq_true, if_false] at hb
            have skip : ∀ (Q : Prop), ((keyT (y3 P k) == [42]) = false → Q) → ((keyT (y3 P k) == [42]) = true ∧ zk2 (P.L.drop (k + 1)) = true → Q) → Q := fun Q a b => by
              cases h1 : (keyT (y3 P k) == [42])
              · exact a h1
              · rw [h1, Bool.true_and, Bool.not_eq_false'] at k42; exact b ⟨h1, k42⟩
            cases k94 : (keyT (y3 P k) == [94])
            · rw [k94] at hb
              simp only [Bool.false_eq_true, if_false] at hb
              have done : ExR P h d (pt b) K R := by rw [← hb]; exact ⟨k, rfl, eK, tK, mK⟩
              refine skip _ (fun s1 => ?_) fun s1 => ?_
              · simp only [ya, zt, xc, ym, zb, zz, zw, yb, zm, yi, zc, y4, vw, zo, zf, ze, zd, List.set_cons_succ, List.set_cons_zero, O_mv, y0, xi, ye, List.map_cons, List.map_nil, zn, yc, zy, za, y9, wd, zb6, wg, ok_0 eK, i43, i63, i42, i94, k43, k63, s1, k94, wg, k8]
                exact done
              · simp only [ya, zt, xc, ym, zb, zz, zw, yb, zm, yi, zc, xx, y4, zo, zf, ze, zd, List.set_cons_succ, List.set_cons_zero, O_mv, y0, xi, yg, O_un, ye, List.map_cons, List.map_nil, qe, Bool.not_true, zn, yc, zy, za, y9, wd, zb6, wg, ok_0 eK, i43, i63, i42, i94, k43, k63, s1.1, hw1, hbg, s1.2, k94, wg, k8]
                exact done
            · rw [k94] at hb
              simp only [if_true] at hb
              rw [yek] at hb
              have hlt := zm5 (by simp) k94
              obtain ⟨K1, q1, e1, m1⟩ := zhp eK hlt
              obtain ⟨K2, q2, e2, m2⟩ := ztp e1 (m := [45]) (by simp)
              have m12 := m1.trans m2
              have tree : ∀ K3, Mv P K2 K3 → TreeP K3 (Iv h.length K3.length) (pt b) n := fun K3 m3 => (tK.keep fun c o hc ho => (m12.trans m3).keep c o ho (by have := hc.1; omega) (by have := hc.1; omega)).weak fun c hc => ⟨hc.1, by have := hc.2; have := (m12.trans m3).le; omega⟩
              have root : ∀ K3 L, Mv P K2 K3 → ∀ j, Heap.read1 (K3 ++ L) ⟨b, j, some 0⟩ = (vm op w n.pl l r n.set)[j]? := fun K3 L m3 j => x8 (y6 _ ((m12.trans m3).keep b _ hbo (by have := hbS.1; omega) (by have := hbS.1; omega)))
              have root0 : ∀ K3, Mv P K2 K3 → ∀ j, Heap.read1 K3 ⟨b, j, some 0⟩ = (vm op w n.pl l r n.set)[j]? := fun K3 m3 j => x8 ((m12.trans m3).keep b _ hbo (by have := hbS.1; omega) (by have := hbS.1; omega))
              cases k45 : (keyT (y3 P (k + 1)) == [45])
              · rw [k45] at e2 hb
                rw [if_neg Bool.false_ne_true] at e2 hb
                have hw := zjk e2 0 (by omega)
                rw [Nat.add_zero, Int.cast_ofNat_Int] at hw
                have nok := fun L => fe (e2.more L) (fj P (k + 1))
                have fin : BehS P h d R 0 (K2 ++ [.cells (vy (y3 P (k + 1))) 0 false, .cells (vm [94] [] n.pl (pt b) nilP false) 0 false]) (k + 1) (pt (K2.length + 1)) :=
                  .inr ⟨_, _, _, rfl, rfl, hb.symm, fj P (k + 1), e2.more _, (mK.trans m12).more _⟩
                refine skip _ (fun s1 => ?_) fun s1 => ?_
                · simp only [ya, zt, ym, zb, zz, zw, yb, zm, yi, zc, zp, y4, vw, zo, zf, ze, zd, List.set_cons_succ, List.set_cons_zero, O_mv, y0, xi, yg, ye, List.map_cons, List.map_nil, zx, zk, x9, y7, yd, z8, yx, wt, Nat.zero_lt_succ, Nat.reduceLT, List.cons_append, List.nil_append, List.length_cons, List.length_nil, Nat.reduceAdd, Nat.zero_add, zn, yc, zy, za, zi, vz, yp, w6, xa, z7, zl, yr, z6, zq, zj, yh, zu, zr, List.append_assoc, List.length_append, Nat.add_zero, List.getElem?_cons_zero, eq_self, yf, zs, wk, f8, xg, ok_0 eK, i43, i63, i42, i94, k43, k63, s1, k94, eK.r0, q1, q2, hw, nok, root K2 _ (Mv.refl P K2), fz, yf, zs]
                  exact ⟨0, by omega, _, _, _, junk rfl, fin⟩
                · simp only [ya, zt, ym, zb, zz, zw, yb, zm, yi, zc, zp, xx, y4, vw, zo, zf, ze, zd, List.set_cons_succ, List.set_cons_zero, O_mv, y0, xi, yg, O_un, ye, List.map_cons, List.map_nil, zx, zk, x9, y7, yd, z8, yx, wt, Nat.zero_lt_succ, Nat.reduceLT, qe, List.cons_append, List.nil_append, List.length_cons, List.length_nil, Nat.reduceAdd, Nat.zero_add, Bool.not_true, zn, yc, zy, za, zi, vz, yp, w6, xa, z7, zl, yr, z6, zq, zj, yh, zu, zr, List.append_assoc, List.length_append, Nat.add_zero, List.getElem?_cons_zero, eq_self, yf, zs, wk, f8, xg, ok_0 eK, i43, i63, i42, i94, k43, k63, s1.1, hw1, hbg, s1.2, k94, eK.r0, q1, q2, hw, nok, root K2 _ (Mv.refl P K2), fz, yf, zs]
                  exact ⟨0, by omega, _, _, _, junk rfl, fin⟩
              · rw [k45] at e2 hb
                rw [if_pos rfl] at e2 hb
                rw [yd0] at hb
                have hw := zjk e2 0 (by omega)
                rw [Nat.add_zero, Int.cast_ofNat_Int] at hw
                have yok := fun L => ok_0 (e2.more L)
                cases k1 : ((y3 P (k + 1 + 1)).kind == 2 && (y3 P (k + 1 + 1)).n == 1)
                · rw [k1, if_neg Bool.false_ne_true] at hb
                  obtain ⟨K3, q3, e3, m3⟩ := zfl (e2.more [.cells (vy (y3 P (k + 1 + 1))) 0 false])
                  have m3' : Mv P K2 K3 := (Mv.add P K2 _).trans m3
                  have fin : BehS P h d R 0 (K3 ++ [.cells (vm [94] [] n.pl (pt b) nilP false) 0 false]) (k + 1 + 1) (pt K3.length) :=
                    .inr ⟨_, _, _, rfl, rfl, hb.symm, fj P (k + 1 + 1), e3.more _, ((mK.trans m12).trans m3').more _⟩
                  cases kk : ((y3 P (k + 1 + 1)).kind == 2)
                  · refine skip _ (fun s1 => ?_) fun s1 => ?_
                    · simp only [ya, zt, ym, zb, zz, zw, yb, zm, yi, zc, zp, xx, y4, vw, zo, zf, ze, zd, List.set_cons_succ, List.set_cons_zero, O_mv, y0, xi, yy, yg, ye, List.map_cons, List.map_nil, zx, zk, x9, y7, yd, z8, yx, wt, Nat.zero_lt_succ, Nat.reduceLT, k9, List.length_cons, List.length_nil, Nat.reduceAdd, Nat.zero_add, zn, yc, zy, za, zi, vz, yp, w6, xa, z7, zl, yr, z6, zq, zj, yu, yo, yh, zu, zr, Nat.add_zero, List.getElem?_cons_zero, eq_self, yf, zs, wk, f8, xg, qg, ok_0 eK, i43, i63, i42, i94, k43, k63, s1, k94, eK.r0, q1, q2, hw, yok, zjw, kk, q3, root0 K3 m3', fz, yf, zs]
                      exact ⟨0, by omega, _, _, _, junk rfl, fin⟩
                    · simp only [ya, zt, ym, zb, zz, zw, yb, zm, yi, zc, zp, xx, y4, vw, zo, zf, ze, zd, List.set_cons_succ, List.set_cons_zero, O_mv, y0, xi, yy, yg, O_un, ye, List.map_cons, List.map_nil, zx, zk, x9, y7, yd, z8, yx, wt, Nat.zero_lt_succ, Nat.reduceLT, k9, qe, List.length_cons, List.length_nil, Nat.reduceAdd, Nat.zero_add, Bool.not_true, zn, yc, zy, za, zi, vz, yp, w6, xa, z7, zl, yr, z6, zq, zj, yu, yo, yh, zu, zr, Nat.add_zero, List.getElem?_cons_zero, eq_self, yf, zs, wk, f8, xg, qg, ok_0 eK, i43, i63, i42, i94, k43, k63, s1.1, hw1, hbg, s1.2, k94, eK.r0, q1, q2, hw, yok, zjw, kk, q3, root0 K3 m3', fz, yf, zs]
                      exact ⟨0, by omega, _, _, _, junk rfl, fin⟩
                  · rw [kk, Bool.true_and] at k1
                    refine skip _ (fun s1 => ?_) fun s1 => ?_
                    · simp only [ya, zt, ym, zb, zz, zw, yb, zm, yi, zc, zp, xx, y4, vw, zo, zf, ze, zd, List.set_cons_succ, List.set_cons_zero, O_mv, y0, xi, yy, yg, ye, List.map_cons, List.map_nil, zx, zk, x9, y7, yd, z8, yx, wt, Nat.zero_lt_succ, Nat.reduceLT, k9, List.length_cons, List.length_nil, Nat.reduceAdd, Nat.zero_add, zn, yc, zy, za, zi, vz, yp, w6, xa, z7, zl, yr, z6, zq, zj, yu, yo, yh, zu, zr, Nat.add_zero, List.getElem?_cons_zero, eq_self, yf, zs, wk, f8, xg, qg, zev, ok_0 eK, i43, i63, i42, i94, k43, k63, s1, k94, eK.r0, q1, q2, hw, yok, zjw, kk, k1, q3, root0 K3 m3', fz, yf, zs]
                      exact ⟨0, by omega, _, _, _, junk rfl, fin⟩
                    · simp only [ya, zt, ym, zb, zz, zw, yb, zm, yi, zc, zp, xx, y4, zo, zf, ze, zd, List.set_cons_succ, List.set_cons_zero, O_mv, y0, xi, yy, yg, O_un, ye, List.map_cons, List.map_nil, zx, zk, x9, y7, yd, z8, yx, wt, Nat.zero_lt_succ, Nat.reduceLT, k9, qe, List.length_cons, List.length_nil, Nat.reduceAdd, Nat.zero_add, Bool.not_true, zn, yc, zy, za, zi, vz, yp, w6, xa, z7, zl, yr, z6, zq, zj, yu, yo, yh, zu, zr, Nat.add_zero, List.getElem?_cons_zero, eq_self, yf, zs, wk, f8, xg, qg, zev, ok_0 eK, i43, i63, i42, i94, k43, k63, s1.1, hw1, hbg, s1.2, k94, eK.r0, q1, q2, hw, yok, zjw, kk, k1, q3, root0 K3 m3', fz, yf, zs]
                      exact ⟨0, by omega, _, _, _, junk rfl, fin⟩
                · rw [k1, if_pos rfl] at hb
                  rw [Bool.and_eq_true] at k1
                  have hlt3 : k + 1 + 1 < P.L.length := by
                    by_cases hk : k + 1 + 1 < P.L.length
                    · exact hk
                    · rw [j8 hk] at k1; cases k1.1
                  obtain ⟨K3, q3, e3, m3⟩ := zhp (e2.more [.cells (vy (y3 P (k + 1 + 1))) 0 false]) hlt3
                  have m3' : Mv P K2 K3 := (Mv.add P K2 _).trans m3
                  have tn3 := tree K3 m3'
                  have fin : BehS P h d R (P.L.length - (k + 1 + 1 + 1) + 1) (K3 ++ [.cells (vm [94] [] n.pl (pt b) nilP false) 0 false]) (k + 1 + 1 + 1) (pt K3.length) :=
                    .inl ⟨.un .inv n, rfl, e3.more _, zxl tn3 (o := .inv) (L := [.cells (vm [94] [] n.pl (pt b) nilP false) 0 false]) (j := 0) rfl (by have := (m12.trans m3').le; omega), ((mK.trans m12).trans m3').more _, hb⟩
                  refine skip _ (fun s1 => ?_) fun s1 => ?_
                  · simp only [ya, zt, ym, zb, zz, zw, yb, zm, yi, zc, zp, xx, y4, vw, zo, zf, ze, zd, List.set_cons_succ, List.set_cons_zero, O_mv, y0, xi, yy, yg, ye, List.map_cons, List.map_nil, zx, zk, x9, y7, yd, z8, yx, wt, Nat.zero_lt_succ, Nat.reduceLT, k9, List.length_cons, List.length_nil, Nat.reduceAdd, Nat.zero_add, zn, yc, zy, za, zi, vz, yp, w6, xa, z7, zl, yr, z6, zq, zj, yu, yo, yh, zu, zr, Nat.add_zero, List.getElem?_cons_zero, eq_self, yf, zs, wk, f8, xg, qg, zev, ok_0 eK, i43, i63, i42, i94, k43, k63, s1, k94, eK.r0, q1, q2, hw, yok, zjw, k1.1, k1.2, e2.r1, q3, root0 K3 m3', fz, yf, zs]
                    exact ⟨_, by omega, _, _, _, junk rfl, fin⟩
                  · simp only [ya, zt, ym, zb, zz, zw, yb, zm, yi, zc, zp, xx, y4, zo, zf, ze, zd, List.set_cons_succ, List.set_cons_zero, O_mv, y0, xi, yy, yg, O_un, ye, List.map_cons, List.map_nil, zx, zk, x9, y7, yd, z8, yx, wt, Nat.zero_lt_succ, Nat.reduceLT, k9, qe, List.length_cons, List.length_nil, Nat.reduceAdd, Nat.zero_add, Bool.not_true, zn, yc, zy, za, zi, vz, yp, w6, xa, z7, zl, yr, z6, zq, zj, yu, yo, yh, zu, zr, Nat.add_zero, List.getElem?_cons_zero, eq_self, yf, zs, wk, f8, xg, qg, zev, ok_0 eK, i43, i63, i42, i94, k43, k63, s1.1, hw1, hbg, s1.2, k94, eK.r0, q1, q2, hw, yok, zjw, k1.1, k1.2, e2.r1, q3, root0 K3 m3', fz, yf, zs]
                    exact ⟨_, by omega, _, _, _, junk rfl, fin⟩
          · rw [k43, k63, k42] at hb
            simp only [Bool.false_eq_true, if_false, if_true] at hb
            rw [Bool.and_eq_true, Bool.not_eq_true'] at k42
            obtain ⟨K1, q1, ht, rt, m', l', hx⟩ := one .star k42.1 hb.symm
            simp only [ya, zt, ym, zb, zz, yb, zm, yi, zc, zp, xx, y4, zo, zf, ze, zd, List.set_cons_succ, List.set_cons_zero, O_mv, y0, xi, yg, O_un, ye, List.map_cons, List.map_nil, zx, zk, x9, y7, yd, z8, yx, wt, Nat.zero_lt_succ, Nat.reduceLT, qe, List.cons_append, List.nil_append, List.length_cons, List.length_nil, Nat.reduceAdd, Nat.zero_add, Bool.not_false, zn, yc, zy, za, zi, vz, yp, w6, xa, z7, xj, y8, zl, yr, z6, zq, zj, yu, yo, yh, zu, zr, List.append_assoc, List.length_append, Nat.add_zero, List.getElem?_cons_zero, List.getElem?_cons_succ, eq_self, yf, zs, wk, f8, xg, jm, ok_0 eK, i43, i63, i42, k43, k63, k42.1, hw1, hbg, k42.2, eK.r0, q1, rt, fz, ht, op1S, yf, zs]
            exact ⟨m', l', _, _, _, junk rfl, hx⟩
        · rw [k43, k63] at hb
          simp only [Bool.false_eq_true, if_false, if_true] at hb
          obtain ⟨K1, q1, ht, rt, m', l', hx⟩ := one .maybe k63 hb.symm
          simp only [ya, zt, ym, zb, zz, yb, zm, yi, zc, zp, y4, wq, znw, zo, zf, ze, zd, List.set_cons_succ, List.set_cons_zero, O_mv, y0, xi, yg, ye, List.map_cons, List.map_nil, zx, zk, x9, y7, yd, z8, yx, wt, Nat.zero_lt_succ, Nat.reduceLT, List.cons_append, List.nil_append, List.length_cons, List.length_nil, Nat.reduceAdd, Nat.zero_add, zn, yc, zy, za, zi, vz, yp, w6, xa, z7, xj, y8, zl, yr, z6, zq, zj, yu, yo, yh, zu, zr, List.append_assoc, List.length_append, Nat.add_zero, List.getElem?_cons_zero, List.getElem?_cons_succ, eq_self, yf, zs, wk, f8, xg, jm, ok_0 eK, i43, i63, k43, k63, eK.r0, q1, rt, fz, ht, op1S, yf, zs]
          exact ⟨m', l', _, _, _, junk rfl, hx⟩
      · rw [k43] at hb
        simp only [if_true] at hb
        obtain ⟨K1, q1, ht, rt, m', l', hx⟩ := one .plus k43 hb.symm
        simp only [ya, zt, ym, zb, zz, yb, zm, yi, zc, zp, wq, znw, zo, zf, ze, zd, List.set_cons_succ, List.set_cons_zero, O_mv, y0, xi, yg, ye, List.map_cons, List.map_nil, zx, zk, x9, y7, yd, z8, yx, wt, Nat.zero_lt_succ, Nat.reduceLT, List.cons_append, List.nil_append, List.length_cons, List.length_nil, Nat.reduceAdd, Nat.zero_add, zn, yc, zy, za, zi, vz, yp, w6, xa, z7, xj, y8, zl, yr, z6, zq, zj, yu, yo, yh, zu, zr, List.append_assoc, List.length_append, Nat.add_zero, List.getElem?_cons_zero, List.getElem?_cons_succ, eq_self, yf, zs, wk, f8, xg, jm, ok_0 eK, i43, k43, eK.r0, q1, rt, fz, ht, op1S, yf, zs]
        exact ⟨m', l', _, _, _, junk rfl, hx⟩
    · simp only [ya, zt, vj, xc, zb, zw, yb, zm, zc, zo, ze, zd, List.set_cons_succ, List.set_cons_zero, O_mv, ye, List.map_cons, List.map_nil, zn, yc, za, yz, yk, py, wg, fe eK hc, wg, k8]
      rw [hb]
      exact ⟨hc, ⟨k, eK⟩, mK, _, rfl⟩
  · unfold zu3 at hR
    cases hp : prim (P.L.drop i) with
    | ok n r =>
      rw [hp] at x0 hR
      obtain ⟨k, rfl, e0, t0, m0⟩ := x0
      refine ⟨h0, k, v0, junk rfl, .inl ⟨n, by simp, e0, t0, m0, ?_⟩⟩
      rw [hR]
      exact zb5 _ _ _ _ _ (by simp) (Nat.le_refl _)
    | bad c p =>
      rw [hp] at x0 hR
      obtain ⟨hc, ⟨k, e0⟩, m0, b, rfl⟩ := x0
      exact ⟨h0, k, _, junk rfl, .inr ⟨c, p, b, rfl, rfl, hR, hc, e0, m0⟩⟩
end Go.Proofs.YtljdbheclfaloaaGreatDoor.AM
namespace Go.Proofs.YtljdbheclfaloaaGreatDoor.AM
open Go.RowKit
set_option linter.unusedSimpArgs false
set_option linter.unusedVariables false

theorem yem {P : RP} {post : List Tok → PR Ex} {ts : List Tok} {n : Ex} {k : Nat} (h : post ts = .ok n (P.L.drop k)) : zo9 post ts = if keyT (y3 P k) == [42] then (match post (P.L.drop (k + 1)) with | .ok m r2 => .ok (.bin false .cross n m) r2 | .bad c a => .bad c a) else .ok n (P.L.drop k) := by
  unfold zo9
  rw [h]
  by_cases hk : k < P.L.length
  · rw [gz hk]
    all_goals
      simp only
      split
      · cases post (P.L.drop (k + 1)) <;> rfl
      · rfl
  · rw [List.drop_eq_nil_of_le (by omega), j8 hk]; rfl
theorem zzg {P : RP} {d : Nat} {post : List Tok → PR Ex} (hF : zcc P ji d post) (hs : Shr post) : zcc P jy d (zo9 post) := by
  intro h i e
  refine wx zbt ?_
  obtain ⟨v0, K, q0, x0⟩ := hF h i e
  have lr := e.lr; have lc := e.lc
  cases hp : post (P.L.drop i) with
  | bad c p =>
    rw [hp] at x0
    obtain ⟨hc, ⟨k, e0⟩, m0, b, rfl⟩ := x0
    have hR : zo9 post (P.L.drop i) = .bad c p := by unfold zo9; rw [hp]
    rw [hR]
    simp only [kv, ya, zt, xc, ym, zb, zw, yb, zm, yi, zc, vw, zo, zf, ze, zd, List.set_cons_succ, List.set_cons_zero, O_mv, y0, xi, ye, List.map_cons, List.map_nil, List.cons_append, List.nil_append, List.length_cons, List.length_nil, Nat.reduceSub, Nat.zero_add, zn, yc, za, zh, zg, wg, yj, q0, fe e0 hc, wg, k8]
    exact ⟨hc, ⟨k, e0⟩, m0, _, rfl⟩
  | ok n r0 =>
    rw [hp] at x0
    obtain ⟨k, rfl, eK, tK, mK⟩ := x0
    rw [yem hp]
    have i42 := is_c eK (m := 42) (by decide)
    obtain ⟨b, op, w, l, r, rfl, hbS, hbo⟩ := tK.root
    cases k42 : (keyT (y3 P k) == [42])
    · simp only [kv, ya, zt, xc, ym, zb, zw, yb, zm, yi, zc, xx, zo, zf, ze, zd, List.set_cons_succ, List.set_cons_zero, O_mv, y0, xi, ye, List.map_cons, List.map_nil, List.cons_append, List.nil_append, List.length_cons, List.length_nil, Nat.reduceSub, Nat.zero_add, zn, yc, za, zh, zg, wg, yj, q0, ok_0 eK, i42, k42, wg, k8]
      rw [if_neg Bool.false_ne_true]
      exact ⟨k, rfl, eK, tK, mK⟩
    · rw [if_pos rfl]
      obtain ⟨K1, q1, e1, m1⟩ := zhp eK (zm5 (by simp) k42)
      obtain ⟨v2, K2, q2, x2⟩ := hF K1 (k + 1) e1
      have mx : Mv P K1 K2 := by
        cases hp2 : post (P.L.drop (k + 1)) with
        | ok x r' => rw [hp2] at x2; obtain ⟨_, _, _, _, m⟩ := x2; exact m
        | bad c a => rw [hp2] at x2; exact x2.2.2.1
      obtain ⟨b2, rfl⟩ := x2.ptr
      have m12 := m1.trans mx
      have r1 : ∀ j, Heap.read1 K1 ⟨b, j, some 0⟩ = (vm op w n.pl l r n.set)[j]? := fun j => x8 (m1.keep b _ hbo (by have := hbS.1; omega) (by have := hbS.1; omega))
      have r2 : Heap.read1 K2 ⟨b, 2, some 0⟩ = some (.int .i64 (n.pl : Int)) := x8 (m12.keep b _ hbo (by have := hbS.1; omega) (by have := hbS.1; omega))
      have a2 : zbo K2 (.pointer (some ⟨b, 2, some 0⟩)) (.int .i64 (n.pl : Int)) = some (undef, K2) := bw r2 rfl
      simp only [kv, ya, zt, xc, zb, zz, yb, zm, yi, zc, zp, xx, zo, zf, ze, zd, List.set_cons_succ, List.set_cons_zero, O_mv, y0, xi, yg, ye, List.map_cons, List.map_nil, zx, zk, x9, y7, yd, z8, yx, wt, Nat.zero_lt_succ, Nat.reduceLT, List.cons_append, List.nil_append, List.length_cons, List.length_nil, Nat.reduceAdd, Nat.reduceSub, Nat.zero_add, zn, yc, za, w6, xa, z7, zq, zj, zh, zg, Nat.add_zero, List.getElem?_cons_zero, wg, eq_self, yf, zs, zcw, yj, wk, f8, q0, ok_0 eK, i42, k42, eK.r0, q1, q2, r1, fz, a2, yf, zs, wg, k8]
      cases hp2 : post (P.L.drop (k + 1)) with
      | ok x r' =>
        rw [hp2] at x2
        obtain ⟨k', rfl, e2, t2, _⟩ := x2
        have l1 := m12.le; have l0 := mK.le; have lm := m1.le; have lx := mx.le
        refine ⟨k', rfl, e2.more _, ?_, (mK.trans m12).more _⟩
        refine ⟨K2.length, Iv h.length K.length, Iv K1.length K2.length, pt b, pt b2, rfl, ⟨by omega, by simp⟩, by simp [vm, op2S], ?_, t2.keep fun c o hc ho => y6 _ ho, ?_, ?_⟩
        · exact (tK.keep fun c o hc ho => m12.keep c o ho (by have := hc.1; omega) (by have := hc.1; omega)).keep fun c o hc ho => y6 _ ho
        · intro z hz
          have := hz.1; have := hz.2
          exact ⟨⟨by omega, by simp; omega⟩, by omega, fun h3 => by have := h3.1; omega⟩
        · intro z hz
          have := hz.1; have := hz.2
          exact ⟨⟨by omega, by simp; omega⟩, by omega⟩
      | bad c a =>
        rw [hp2] at x2
        obtain ⟨hc, ⟨k', e2⟩, _, _⟩ := x2
        exact ⟨hc, ⟨k', e2.more _⟩, (mK.trans m12).more _, _, rfl⟩
theorem Rd.upd {P : RP} {h K : Heap} {i d x a i' d' x' a' b : Nat} (e : Rd P h i d x a) (eK : Rd P K i' d' x' a') (hb : h.length ≤ b) (o : AObj) : Rd P (K.set b o) i' d' x' a' := by
  have lr := e.lr; have lc := e.lc
  refine ⟨?_, ?_, ?_, ?_, eK.le⟩
  · rw [List.getElem?_set_ne (by omega)]; exact eK.hr
  · rw [List.getElem?_set_ne (by omega)]; exact eK.hc
  · exact eK.sw.keep fun c hc o' ho => by rw [List.getElem?_set_ne (by have := e.sw.lt hc; omega)]; exact ho
  · exact eK.sc.keep fun c hc o' ho => by rw [List.getElem?_set_ne (by have := e.sc.lt hc; omega)]; exact ho
theorem Mv.upd {P : RP} {h K : Heap} {b : Nat} (m : Mv P h K) (hb : h.length ≤ b) (o : AObj) : Mv P h (K.set b o) :=
  ⟨fun c o' ho n1 n2 => by rw [List.getElem?_set_ne (by have := (List.getElem?_eq_some_iff.1 ho).1; omega)]; exact m.keep c o' ho n1 n2, by rw [List.length_set]; exact m.le⟩
theorem yfk {P : RP} {t : Tok} {f : List Tok → PR Ex} {ts : List Tok} {n : Ex} {k : Nat} (h : f ts = .ok n (P.L.drop k)) : brkP P.en t ts (some f) = if keyT t == [40] then (if keyT (y3 P k) == [41] then .ok (.par false t.at_ n) (P.L.drop (k + 1)) else .bad (zai P k) (za1 P k)) else (if keyT (y3 P k) == [93] then .ok (.box t.at_ n) (P.L.drop (k + 1)) else .bad (zai P k) (za1 P k)) := by
  have c : ∀ (cl : Bys) (x : Ex), cl ≠ [] → zq0 P.en cl x (P.L.drop k) = if keyT (y3 P k) == cl then .ok x (P.L.drop (k + 1)) else .bad (zai P k) (za1 P k) := fun cl x hcl => by
    unfold zai za1
    by_cases hk : k < P.L.length
    · rw [gz hk, zq0, if_pos hk, if_pos hk]
    · rw [List.drop_eq_nil_of_le (by omega), j8 hk, if_neg hk, if_neg hk, zq0, zew]
      rw [if_neg (by simpa using hcl)]
  rw [brkP, h]
  simp only [brP]
  rw [c _ _ (by simp), c _ _ (by simp)]
theorem yed {P : RP} {t : Tok} {f : List Tok → PR Ex} {ts : List Tok} {c a : Nat} (h : f ts = .bad c a) : brkP P.en t ts (some f) = .bad c a := by
  rw [brkP, h]; simp only [brP]; split <;> rfl
end Go.Proofs.YtljdbheclfaloaaGreatDoor.AM
namespace Go.Proofs.YtljdbheclfaloaaGreatDoor.AM
open Go.RowKit
set_option linter.unusedSimpArgs false
set_option linter.unusedVariables false

def zlc (P : RP) (d : Nat) : Option (List Tok → PR Ex) → Prop
  | none => 32 ≤ d
  | some f => d < 32 ∧ zcc P xy (d + 1) f
theorem yej (P : RP) (inner : Option (List Tok → PR Ex)) (k : Nat) : zpr P.en inner (P.L.drop k) = if keyT (y3 P k) == [40] || keyT (y3 P k) == [91] then brkP P.en (y3 P k) (P.L.drop (k + 1)) inner
    else if (y3 P k).kind == 2 && (y3 P k).n == 0 then .ok (.zero (y3 P k).at_) (P.L.drop (k + 1))
    else if zbn (y3 P k) then .ok (.name false (y3 P k).at_ (y3 P k).text) (P.L.drop (k + 1))
    else .bad (zai P k) (za1 P k) := by
  unfold zai za1
  by_cases hk : k < P.L.length
  · rw [gz hk, zpr, if_pos hk, if_pos hk]
  · rw [List.drop_eq_nil_of_le (by omega), j8 hk, if_neg hk, if_neg hk]; rfl
set_option maxHeartbeats 4000000 in
theorem yf9 {P : RP} {d : Nat} {inner : Option (List Tok → PR Ex)} (hin : zlc P d inner) : zcc P gm d (zpr P.en inner) := by
  intro h i e
  refine wx zdw ?_
  have lr := e.lr; have lc := e.lc
  have hw := zjk e 0 (by omega)
  rw [Nat.add_zero, Int.cast_ofNat_Int] at hw
  have i40 := is_c (e.more [.cells (vy (y3 P i)) 0 false, .cells [str [], str [], .int .i64 (atV P i), nilP, nilP, .bool false] 0 false]) (m := 40) (by decide)
  have i91 := is_c (e.more [.cells (vy (y3 P i)) 0 false, .cells [str [], str [], .int .i64 (atV P i), nilP, nilP, .bool false] 0 false]) (m := 91) (by decide)
  have e0 := e.more [.cells (vy (y3 P i)) 0 false, .cells [str [], str [], .int .i64 (atV P i), nilP, nilP, .bool false] 0 false]
  have m0 : Mv P h (h ++ [.cells (vy (y3 P i)) 0 false, .cells [str [], str [], .int .i64 (atV P i), nilP, nilP, .bool false] 0 false]) := Mv.add P h _
  obtain ⟨H0, hH0⟩ : ∃ H0, H0 = h ++ [AObj.cells (vy (y3 P i)) 0 false, .cells [str [], str [], .int .i64 (atV P i), nilP, nilP, .bool false] 0 false] := ⟨_, rfl⟩
  have o1 : H0[h.length]? = some (.cells (vy (y3 P i)) 0 false) := by rw [hH0]; simp
  have o2 : H0[h.length + 1]? = some (.cells [str [], str [], .int .i64 (atV P i), nilP, nilP, .bool false] 0 false) := by rw [hH0]; simp
  have l2 : H0.length = h.length + 2 := by rw [hH0]; simp
  rw [← hH0] at i40 i91 e0 m0
  have t1 : ∀ K, Mv P H0 K → ∀ j, Heap.read1 K ⟨h.length, j, some 0⟩ = (vy (y3 P i))[j]? := fun K m j => x8 (m.keep _ _ o1 (by omega) (by omega))
  have t2 : ∀ K, Mv P H0 K → K[h.length + 1]? = some (.cells [str [], str [], .int .i64 (atV P i), nilP, nilP, .bool false] 0 false) := fun K m => m.keep _ _ o2 (by omega) (by omega)
  rw [yej]
  have hat : i < P.L.length → atV P i = ((y3 P i).at_ : Int) := fun hk => by unfold atV; rw [if_pos hk]
  cases hbr : (keyT (y3 P i) == [40] || keyT (y3 P i) == [91])
  · rw [if_neg Bool.false_ne_true]
    rw [Bool.or_eq_false_iff] at hbr
    cases h0 : ((y3 P i).kind == 2 && (y3 P i).n == 0)
    · rw [if_neg Bool.false_ne_true]
      have skip : ∀ (Q : Prop), (((y3 P i).kind == 2) = false → Q) → (((y3 P i).kind == 2) = true ∧ ((y3 P i).n == 0) = false → Q) → Q := fun Q a b => by
        cases h1 : ((y3 P i).kind == 2)
        · exact a h1
        · rw [h1, Bool.true_and] at h0; exact b ⟨h1, h0⟩
      cases hn : zbn (y3 P i)
      · rw [if_neg Bool.false_ne_true]
        obtain ⟨K, q, eK, mK⟩ := zfl e0
        have fin : ExR P h d (pt (h.length + 1)) K (.bad (zai P i) (za1 P i)) := ⟨fj P i, ⟨i, eK⟩, m0.trans mK, _, rfl⟩
        have hn2 : (((y3 P i).kind : Int) == 1) = false ∨ (((y3 P i).kind : Int) == 1) = true ∧ kwL.contains (y3 P i).text = true := by
          have k1 : (((y3 P i).kind : Int) == 1) = ((y3 P i).kind == 1) := by rw [Bool.eq_iff_iff]; simp; omega
          rw [k1]; unfold zbn at hn
          cases hk : ((y3 P i).kind == 1)
          · exact .inl rfl
          · rw [hk, Bool.true_and, Bool.not_eq_false'] at hn; exact .inr ⟨rfl, hn⟩
        refine skip _ (fun s1 => ?_) fun s1 => ?_
        · rcases hn2 with hn2 | ⟨hn2, hn3⟩
          · simp only [ww, ya, zt, xc, zb, zw, yb, zm, yi, zc, zp, y4, vw, zo, zf, ze, zd, List.set_cons_succ, List.set_cons_zero, O_mv, y0, xi, yy, yg, O_un, ye, List.map_cons, List.map_nil, zx, zk, x9, y7, yd, z8, yx, wt, Nat.reduceLT, k9, qe, List.cons_append, List.nil_append, List.length_cons, List.length_nil, Nat.reduceAdd, Nat.reduceSub, Nat.zero_add, Bool.not_true, zn, yc, zy, za, zi, yp, w6, xa, z7, zl, yr, z6, zq, zj, yh, zu, zr, zh, zg, List.append_assoc, List.length_append, Nat.add_zero, List.getElem?_cons_zero, wg, eq_self, yf, zs, yj, xg, qg, hw, e.r1, at_c (e.more _), yf, zs, ← hH0, ok_0 e0, i40, i91, hbr.1, hbr.2, t1 H0 (Mv.refl P H0), zjw, s1, hn2, q, wg, k8]
            exact fin
          · simp only [ww, ya, zt, xc, zb, zw, yb, zm, yi, zc, zp, xx, y4, vw, zo, zf, ze, zd, List.set_cons_succ, List.set_cons_zero, O_mv, y0, xi, yy, yg, O_un, ye, List.map_cons, List.map_nil, zx, zk, x9, y7, yd, z8, yx, wt, Nat.reduceLT, k9, qe, List.cons_append, List.nil_append, List.length_cons, List.length_nil, Nat.reduceAdd, Nat.reduceSub, Nat.zero_add, Bool.not_true, zn, yc, zy, za, zi, yp, w6, xa, z7, zl, yr, z6, zq, zj, yh, zu, zr, zh, zg, List.append_assoc, List.length_append, Nat.add_zero, List.getElem?_cons_zero, wg, eq_self, yf, zs, yj, xg, qg, jm, hw, e.r1, at_c (e.more _), yf, zs, ← hH0, ok_0 e0, i40, i91, hbr.1, hbr.2, t1 H0 (Mv.refl P H0), zjw, s1, hn2, zb4, hn3, q, wg, k8]
            exact fin
        · rcases hn2 with hn2 | ⟨hn2, hn3⟩
          · simp only [ww, ya, zt, xc, zb, zw, yb, zm, yi, zc, zp, xx, y4, vw, zo, zf, ze, zd, List.set_cons_succ, List.set_cons_zero, O_mv, y0, xi, yy, yg, O_un, ye, List.map_cons, List.map_nil, zx, zk, x9, y7, yd, z8, yx, wt, Nat.reduceLT, k9, qe, List.cons_append, List.nil_append, List.length_cons, List.length_nil, Nat.reduceAdd, Nat.reduceSub, Nat.zero_add, Bool.not_true, zn, yc, zy, za, zi, yp, w6, xa, z7, zl, yr, z6, zq, zj, yh, zu, zr, zh, zg, List.append_assoc, List.length_append, Nat.add_zero, List.getElem?_cons_zero, wg, eq_self, yf, zs, yj, xg, qg, zev, hw, e.r1, at_c (e.more _), yf, zs, ← hH0, ok_0 e0, i40, i91, hbr.1, hbr.2, t1 H0 (Mv.refl P H0), zjw, s1.1, s1.2, hn2, q, wg, k8]
            exact fin
          · simp only [ww, ya, zt, xc, zb, zw, yb, zm, yi, zc, zp, xx, y4, zo, zf, ze, zd, List.set_cons_succ, List.set_cons_zero, O_mv, y0, xi, yy, yg, O_un, ye, List.map_cons, List.map_nil, zx, zk, x9, y7, yd, z8, yx, wt, Nat.reduceLT, k9, qe, List.cons_append, List.nil_append, List.length_cons, List.length_nil, Nat.reduceAdd, Nat.reduceSub, Nat.zero_add, Bool.not_true, zn, yc, zy, za, zi, yp, w6, xa, z7, zl, yr, z6, zq, zj, yh, zu, zr, zh, zg, List.append_assoc, List.length_append, Nat.add_zero, List.getElem?_cons_zero, wg, eq_self, yf, zs, yj, xg, qg, jm, zev, hw, e.r1, at_c (e.more _), yf, zs, ← hH0, ok_0 e0, i40, i91, hbr.1, hbr.2, t1 H0 (Mv.refl P H0), zjw, s1.1, s1.2, hn2, zb4, hn3, q, wg, k8]
            exact fin
      · rw [if_pos rfl]
        have hlt := ztu P i hn
        obtain ⟨K, q, eK, mK⟩ := zhp e0 hlt
        have hk1 : (((y3 P i).kind : Int) == 1) = true ∧ kwL.contains (y3 P i).text = false := by
          unfold zbn at hn
          rw [Bool.and_eq_true, beq_iff_eq, Bool.not_eq_true'] at hn
          exact ⟨by rw [hn.1]; rfl, hn.2⟩
        have s1 : ((y3 P i).kind == 2) = false := by
          have := hk1.1; rw [beq_iff_eq] at this; rw [beq_eq_false_iff_ne]; omega
        have oK := t2 K mK
        have hlK := (List.getElem?_eq_some_iff.1 oK).1
        have r1 := t1 K mK
        have r2 : ∀ l, Heap.read1 (K.set (h.length + 1) (.cells l 0 false)) ⟨h.length, 1, some 0⟩ = some (str (y3 P i).text) := fun l => by
          rw [ybo (by simp), r1]; rfl
        have a1 : ∀ l, zbo (K.set (h.length + 1) (.cells l 0 false)) (.pointer (some ⟨h.length, 1, some 0⟩)) (str (y3 P i).text) = some (undef, K.set (h.length + 1) (.cells l 0 false)) := fun l => bw (r2 l) rfl
        simp only [ww, ya, zt, xc, zb, zz, zw, yb, zm, yi, zc, zp, xx, y4, vw, zo, zf, ze, zd, List.set_cons_succ, List.set_cons_zero, O_mv, y0, xi, yy, yg, O_un, ye, List.map_cons, List.map_nil, zx, zk, x9, y7, yd, z8, yx, wt, Nat.zero_lt_succ, Nat.reduceLT, k9, qe, List.cons_append, List.nil_append, List.length_cons, List.length_nil, Nat.reduceAdd, Nat.reduceSub, Nat.zero_add, Bool.not_true, Bool.not_false, zn, yc, zy, za, zi, yp, w6, xa, z7, zl, xb, yr, z6, zq, zj, yh, zu, zr, zh, zg, List.append_assoc, List.length_append, Nat.add_zero, List.getElem?_cons_zero, wg, eq_self, yf, zs, zcw, yj, wj, xg, qg, jm, hw, e.r1, at_c (e.more _), yf, zs, ← hH0, ok_0 e0, i40, i91, hbr.1, hbr.2, t1 H0 (Mv.refl P H0), zjw, s1, hk1.1, zb4, hk1.2, e0.r0, q, r1, b9 oK, a1, zg3 hlK, wg, k8]
        refine ⟨i + 1, rfl, e.upd eK (by omega) _, ⟨h.length + 1, rfl, ⟨by omega, by rw [List.length_set]; exact hlK⟩, ?_⟩, (m0.trans mK).upd (by omega) _⟩
        rw [List.getElem?_set_self hlK, hat hlt]; rfl
    · rw [if_pos rfl]
      rw [Bool.and_eq_true] at h0
      have hlt : i < P.L.length := by
        by_cases hk : i < P.L.length
        · exact hk
        · rw [j8 hk] at h0; cases h0.1
      obtain ⟨K, q, eK, mK⟩ := zhp e0 hlt
      have oK := t2 K mK
      have hlK := (List.getElem?_eq_some_iff.1 oK).1
      simp only [ww, ya, zt, xc, zb, zz, zw, yb, zm, yi, zc, zp, xx, y4, zo, zf, ze, zd, List.set_cons_succ, List.set_cons_zero, O_mv, y0, xi, yy, yg, O_un, ye, List.map_cons, List.map_nil, zx, zk, x9, y7, yd, z8, yx, wt, Nat.zero_lt_succ, Nat.reduceLT, k9, qe, List.cons_append, List.nil_append, List.length_cons, List.length_nil, Nat.reduceAdd, Nat.reduceSub, Nat.zero_add, Bool.not_true, zn, yc, zy, za, zi, yp, w6, xa, z7, zl, xb, yr, z6, zq, zj, yh, zu, zr, zh, zg, List.append_assoc, List.length_append, Nat.add_zero, List.getElem?_cons_zero, wg, eq_self, yf, zs, yj, wj, xg, qg, zev, hw, e.r1, at_c (e.more _), yf, zs, ← hH0, ok_0 e0, i40, i91, hbr.1, hbr.2, t1 H0 (Mv.refl P H0), zjw, h0.1, h0.2, e0.r0, q, b9 oK, wg, k8]
      refine ⟨i + 1, rfl, e.upd eK (by omega) _, ⟨h.length + 1, rfl, ⟨by omega, by rw [List.length_set]; exact hlK⟩, ?_⟩, (m0.trans mK).upd (by omega) _⟩
      rw [List.getElem?_set_self hlK, hat hlt]; rfl
  · rw [if_pos rfl]
    have brk : ∀ (Q : Prop), ((keyT (y3 P i) == [40]) = true ∧ (y3 P i).text = [40] → Q) → ((keyT (y3 P i) == [40]) = false ∧ (keyT (y3 P i) == [91]) = true ∧ (y3 P i).text = [91] → Q) → Q := fun Q a b => by
      cases h1 : (keyT (y3 P i) == [40])
      · rw [h1, Bool.false_or] at hbr
        exact b ⟨h1, hbr, (zeo (by simp) hbr).1⟩
      · exact a ⟨h1, (zeo (by simp) h1).1⟩
    have hlt : i < P.L.length := by
      rw [Bool.or_eq_true] at hbr
      rcases hbr with hbr | hbr <;> exact zm5 (by simp) hbr
    have rt : Heap.read1 H0 ⟨h.length, 3, some 0⟩ = some (.int .i64 ((y3 P i).at_ : Int)) := by rw [t1 H0 (Mv.refl P H0)]; rfl
    cases inner with
    | none =>
      have hd : 32 ≤ d := hin
      have c1 : ((32 : Int) ≤ (d : Int)) = True := by simp; omega
      obtain ⟨K, q, eK, mK⟩ := zje e0 2 (y3 P i).at_ (by omega)
      simp only [Int.cast_ofNat_Int] at q
      have fin : ExR P h d (pt (h.length + 1)) K (brkP P.en (y3 P i) (P.L.drop (i + 1)) none) := ⟨by omega, ⟨i, eK⟩, m0.trans mK, _, rfl⟩
      refine brk _ (fun b1 => ?_) fun b1 => ?_
      · simp only [ww, ya, zt, xc, zb, zz, zw, yb, zm, yi, zc, zp, wq, zo, zf, ze, zd, List.set_cons_succ, List.set_cons_zero, O_mv, y0, xi, yy, yg, O_un, ye, List.map_cons, List.map_nil, zx, zk, x9, y7, yd, z8, yx, wt, Nat.reduceLT, zch, qe, List.cons_append, List.nil_append, List.length_cons, List.length_nil, Nat.reduceAdd, Nat.reduceSub, Nat.zero_add, Bool.not_true, zn, yc, zy, za, y9, wd, yp, w6, xa, z7, zl, yr, z6, zq, zj, yh, zu, zr, zh, zg, List.append_assoc, List.length_append, Nat.add_zero, List.getElem?_cons_zero, List.getElem?_cons_succ, wg, eq_self, yf, zs, yj, decide_true, xg, hw, e.r1, at_c (e.more _), yf, zs, ← hH0, ok_0 e0, i40, b1.1, e0.r0, c1, decide_true, rt, q, wg, k8]
        exact fin
      · simp only [ww, ya, zt, xc, zb, zz, zw, yb, zm, yi, zc, zp, y4, zo, zf, ze, zd, List.set_cons_succ, List.set_cons_zero, O_mv, y0, xi, yy, yg, O_un, ye, List.map_cons, List.map_nil, zx, zk, x9, y7, yd, z8, yx, wt, Nat.reduceLT, zch, qe, List.cons_append, List.nil_append, List.length_cons, List.length_nil, Nat.reduceAdd, Nat.reduceSub, Nat.zero_add, Bool.not_true, zn, yc, zy, za, y9, wd, yp, w6, xa, z7, zl, yr, z6, zq, zj, yh, zu, zr, zh, zg, List.append_assoc, List.length_append, Nat.add_zero, List.getElem?_cons_zero, List.getElem?_cons_succ, wg, eq_self, yf, zs, yj, decide_true, xg, hw, e.r1, at_c (e.more _), yf, zs, ← hH0, ok_0 e0, i40, i91, b1.1, b1.2.1, e0.r0, c1, decide_true, rt, q, wg, k8]
        exact fin
    | some f =>
      obtain ⟨hd, hF⟩ := hin
      have c1 : ((32 : Int) ≤ (d : Int)) = False := by simp; omega
      obtain ⟨K1, q1, e1, m1⟩ := zhp e0 hlt
      obtain ⟨e1', m1'⟩ := e1.setR (d + 1) 0 0
      have w1 : IntKind.i64.wrap ((d : Int) + 1) = ((d + 1 : Nat) : Int) := xq (by omega)
      have wr1 := e1.wr0 3 (by omega) (.int .i64 ((d + 1 : Nat) : Int))
      simp only [List.set_cons_succ, List.set_cons_zero] at wr1
      obtain ⟨K1', hK1'⟩ : ∃ K, K = K1.set P.r (.cells [pt P.c, P.ws, .int .i64 (P.en : Int), .int .i64 ((d + 1 : Nat) : Int), .int .i64 ((0 : Nat) : Int), .int .i64 ((0 : Nat) : Int)] 0 false) := ⟨_, rfl⟩
      rw [← hK1'] at e1' m1' wr1
      obtain ⟨v, K2, q2, x2⟩ := hF K1' (i + 1) e1'
      obtain ⟨b2, rfl⟩ := x2.ptr
      have m2 : Mv P K1' K2 := by
        cases hp : f (P.L.drop (i + 1)) with
        | ok x r' => rw [hp] at x2; obtain ⟨_, _, _, _, m⟩ := x2; exact m
        | bad c a => rw [hp] at x2; exact x2.2.2.1
      have m02 : Mv P H0 K2 := (m1.trans m1').trans m2
      have w2 : IntKind.i64.wrap (((d + 1 : Nat) : Int) - 1) = (d : Int) := by rw [zfd (by unfold W; omega)]; omega
      cases hp : f (P.L.drop (i + 1)) with
      | bad c a =>
        rw [hp] at x2
        obtain ⟨hc, ⟨k, e2⟩, _, _⟩ := x2
        rw [yed hp]
        obtain ⟨e2', m2'⟩ := e2.setR d c a
        have wr2 := e2.wr0 3 (by omega) (.int .i64 (d : Int))
        simp only [List.set_cons_succ, List.set_cons_zero] at wr2
        obtain ⟨K2', hK2'⟩ : ∃ K, K = K2.set P.r (.cells [pt P.c, P.ws, .int .i64 (P.en : Int), .int .i64 (d : Int), .int .i64 (c : Int), .int .i64 (a : Int)] 0 false) := ⟨_, rfl⟩
        rw [← hK2'] at e2' m2' wr2
        have m02' := m02.trans m2'
        have oK := t2 K2' m02'
        have hlK := (List.getElem?_eq_some_iff.1 oK).1
        have r1 := t1 K2' m02'
        refine brk _ (fun b1 => ?_) fun b1 => ?_
        · simp only [ww, ya, zt, xc, ym, zb, zz, zw, yb, zm, yi, zc, zp, wq, zo, zf, ze, zd, List.set_cons_succ, List.set_cons_zero, O_mv, y0, xi, yy, yg, O_un, ye, List.map_cons, List.map_nil, zx, zk, x9, y7, yd, z8, yx, wt, Nat.zero_lt_succ, Nat.reduceLT, qf, zrn, zch, qe, List.cons_append, List.nil_append, List.length_cons, List.length_nil, Nat.reduceAdd, Nat.reduceSub, Nat.zero_add, Bool.not_true, zn, yc, zy, za, y9, wd, yp, w6, xa, z7, zl, xb, xz, qw, yr, z6, zq, zj, yh, zu, zr, zh, zg, List.append_assoc, List.length_append, Nat.add_zero, List.getElem?_cons_zero, List.getElem?_cons_succ, wg, beq_self_eq_true, eq_self, yf, zs, yj, wj, va, decide_false, xg, jm, hw, e.r1, at_c (e.more _), yf, zs, ← hH0, ok_0 e0, i40, b1.1, b1.2, e0.r0, c1, decide_false, q1, e1.r0, w1, wr1, q2, e2.r0, w2, wr2, r1, zq7 e2' hc, b9 oK, zg3 hlK, wg, k8]
          exact ⟨hc, ⟨k, e.upd e2' (by omega) _⟩, (m0.trans m02').upd (by omega) _, _, rfl⟩
        · simp only [ww, ya, zt, xc, ym, zb, zz, zw, yb, zm, yi, zc, zp, y4, zo, zf, ze, zd, List.set_cons_succ, List.set_cons_zero, O_mv, y0, xi, yy, yg, O_un, ye, List.map_cons, List.map_nil, zx, zk, x9, y7, yd, z8, yx, wt, Nat.zero_lt_succ, Nat.reduceLT, qf, zrn, zch, qe, List.cons_append, List.nil_append, List.length_cons, List.length_nil, Nat.reduceAdd, Nat.reduceSub, Nat.zero_add, Bool.not_true, zn, yc, zy, za, zi, yp, w6, xa, z7, zl, xb, xz, qw, yr, z6, zq, zj, yh, zu, zr, zh, zg, List.append_assoc, List.length_append, Nat.add_zero, List.getElem?_cons_zero, List.getElem?_cons_succ, wg, eq_self, yf, zs, yj, wj, va, decide_false, xg, jm, hw, e.r1, at_c (e.more _), yf, zs, ← hH0, ok_0 e0, i40, i91, b1.1, b1.2.1, b1.2.2, e0.r0, c1, decide_false, q1, e1.r0, w1, wr1, q2, e2.r0, w2, wr2, r1, zq7 e2' hc, b9 oK, zg3 hlK, show (([91] : Bys) == [40]) = false from rfl, wg, k8]
          exact ⟨hc, ⟨k, e.upd e2' (by omega) _⟩, (m0.trans m02').upd (by omega) _, _, rfl⟩
      | ok n r0 =>
        rw [hp] at x2
        obtain ⟨k, rfl, e2, tn, _⟩ := x2
        rw [yfk hp]
        obtain ⟨e2', m2'⟩ := e2.setR d 0 0
        have wr2 := e2.wr0 3 (by omega) (.int .i64 (d : Int))
        simp only [List.set_cons_succ, List.set_cons_zero] at wr2
        obtain ⟨K2', hK2'⟩ : ∃ K, K = K2.set P.r (.cells [pt P.c, P.ws, .int .i64 (P.en : Int), .int .i64 (d : Int), .int .i64 ((0 : Nat) : Int), .int .i64 ((0 : Nat) : Int)] 0 false) := ⟨_, rfl⟩
        rw [← hK2'] at e2' m2' wr2
        have m02' := m02.trans m2'
        have lK1 : K1'.length = K1.length := by rw [hK1', List.length_set]
        have lK2 : K2'.length = K2.length := by rw [hK2', List.length_set]
        have la := m1.le; have lb := m2.le
        -- the tree behind all
        have tree : ∀ K3 (l : List Value), Mv P K2' K3 → TreeP (K3.set (h.length + 1) (.cells l 0 false)) (Iv K1'.length K2.length) (pt b2) n := fun K3 l m3 =>
          tn.keep fun c o hc ho => by
            have := hc.1
            rw [List.getElem?_set_ne (by omega)]
            exact (m2'.trans m3).keep c o ho (by omega) (by omega)
        have ends : ∀ K3 (l : List Value) (cl : Bys), Mv P K2' K3 → ∀ y, Iv K1'.length K2.length y → Iv h.length (K3.set (h.length + 1) (.cells l 0 false)).length y ∧ y ≠ h.length + 1 := fun K3 l cl m3 y hy => by
          have := hy.1; have := hy.2; have := m3.le
          exact ⟨⟨by omega, by rw [List.length_set]; omega⟩, by omega⟩
        refine brk _ (fun b1 => ?_) fun b1 => ?_
        · rw [if_pos b1.1]
          obtain ⟨K3, q3, e3, m3⟩ := ztp e2' (m := [41]) (by simp)
          have m03 := m02'.trans m3
          have oK := t2 K3 m03
          have hlK := (List.getElem?_eq_some_iff.1 oK).1
          simp only [ww, ya, zt, xc, ym, zb, zz, zw, yb, zm, yi, zc, zp, wq, zo, zf, ze, zd, List.set_cons_succ, List.set_cons_zero, O_mv, y0, xi, yy, yg, O_un, ye, List.map_cons, List.map_nil, zx, zk, x9, y7, yd, z8, yx, wt, Nat.zero_lt_succ, Nat.reduceLT, qf, zrn, zch, qe, List.cons_append, List.nil_append, List.length_cons, List.length_nil, Nat.reduceAdd, Nat.reduceSub, Nat.zero_add, Bool.not_true, zn, yc, zy, za, y9, wd, yp, w6, xa, z7, zl, xb, xz, qw, yr, z6, zq, zj, yh, zu, zr, zh, zg, List.append_assoc, List.length_append, Nat.add_zero, List.getElem?_cons_zero, List.getElem?_cons_succ, wg, beq_self_eq_true, eq_self, yf, zs, yj, wj, va, decide_false, xg, jm, hw, e.r1, at_c (e.more _), yf, zs, ← hH0, ok_0 e0, i40, b1.1, b1.2, e0.r0, c1, decide_false, q1, e1.r0, w1, wr1, q2, e2.r0, w2, wr2, t1 K2' m02', q3, b9 oK, zg3 hlK, wg, k8]
          cases k41 : (keyT (y3 P k) == [41])
          · rw [k41, if_neg Bool.false_ne_true] at e3
            rw [if_neg Bool.false_ne_true]
            exact ⟨fj P k, ⟨k, e.upd e3 (by omega) _⟩, (m0.trans m03).upd (by omega) _, _, rfl⟩
          · rw [k41, if_pos rfl] at e3
            rw [if_pos rfl]
            refine ⟨k + 1, rfl, e.upd e3 (by omega) _, ⟨h.length + 1, _, pt b2, rfl, ⟨by omega, by rw [List.length_set]; exact hlK⟩, ?_, tree K3 _ m3, ends K3 _ [41] m3⟩, (m0.trans m03).upd (by omega) _⟩
            rw [List.getElem?_set_self hlK, hat hlt]; rfl
        · rw [if_neg (by rw [b1.1]; exact Bool.false_ne_true)]
          obtain ⟨K3, q3, e3, m3⟩ := ztp e2' (m := [93]) (by simp)
          have m03 := m02'.trans m3
          have oK := t2 K3 m03
          have hlK := (List.getElem?_eq_some_iff.1 oK).1
          simp only [ww, ya, zt, xc, ym, zb, zz, zw, yb, zm, yi, zc, zp, y4, zo, zf, ze, zd, List.set_cons_succ, List.set_cons_zero, O_mv, y0, xi, yy, yg, O_un, ye, List.map_cons, List.map_nil, zx, zk, x9, y7, yd, z8, yx, wt, Nat.zero_lt_succ, Nat.reduceLT, qf, zrn, zch, qe, List.cons_append, List.nil_append, List.length_cons, List.length_nil, Nat.reduceAdd, Nat.reduceSub, Nat.zero_add, Bool.not_true, zn, yc, zy, za, zi, yp, w6, xa, z7, zl, xb, xz, qw, yr, z6, zq, zj, yh, zu, zr, zh, zg, List.append_assoc, List.length_append, Nat.add_zero, List.getElem?_cons_zero, List.getElem?_cons_succ, wg, eq_self, yf, zs, yj, wj, va, decide_false, xg, jm, hw, e.r1, at_c (e.more _), yf, zs, ← hH0, ok_0 e0, i40, i91, b1.1, b1.2.1, b1.2.2, e0.r0, c1, decide_false, q1, e1.r0, w1, wr1, q2, e2.r0, w2, wr2, t1 K2' m02', q3, b9 oK, zg3 hlK, show (([91] : Bys) == [40]) = false from rfl, wg, k8]
          cases k41 : (keyT (y3 P k) == [93])
          · rw [k41, if_neg Bool.false_ne_true] at e3
            rw [if_neg Bool.false_ne_true]
            exact ⟨fj P k, ⟨k, e.upd e3 (by omega) _⟩, (m0.trans m03).upd (by omega) _, _, rfl⟩
          · rw [k41, if_pos rfl] at e3
            rw [if_pos rfl]
            refine ⟨k + 1, rfl, e.upd e3 (by omega) _, ⟨h.length + 1, _, pt b2, rfl, ⟨by omega, by rw [List.length_set]; exact hlK⟩, ?_, tree K3 _ m3, ends K3 _ [41] m3⟩, (m0.trans m03).upd (by omega) _⟩
            rw [List.getElem?_set_self hlK, hat hlt]; rfl
end Go.Proofs.YtljdbheclfaloaaGreatDoor.AM
namespace Go.Proofs.YtljdbheclfaloaaGreatDoor.AM
open Go.RowKit
set_option linter.unusedSimpArgs false
set_option linter.unusedVariables false

theorem zoq {t : Tok} (ht : zqz t) {m : UInt8} (hm : (letV (m.toNat : Int) || (m.toNat : Int) == 95) = false) : ((t.kind : Int) == 3 && t.text == [m]) = (keyT t == [m]) := by
  have hk : ((t.kind : Int) == 3) = decide (t.kind = 3) := by rw [Bool.eq_iff_iff]; simp; omega
  rw [hk]
  unfold keyT
  rcases ht with ⟨h1, c, l, h2, h3⟩ | h1 | ⟨h1, c, l, h2, h3⟩
  · have hne : ((c :: l : Bys) == [m]) = false := by
      rw [beq_eq_false_iff_ne]; intro he; cases he; rw [hm] at h3; cases h3
    rw [h2]
    simp only [h1, hne, Nat.reduceEqDiff, decide_false, Bool.false_and, if_false]
  · simp [h1]
  · simp [h1]
theorem ycd : MarksOk [[124]] orM := ⟨rfl, by decide, fun t ht => by
  have h := zoq ht (m := 124) (by decide)
  refine ⟨?_, fun o ho => ?_⟩
  · rw [show ([[124]] : List Bys).contains t.text = (t.text == [124]) by rw [Bool.eq_iff_iff]; simp, h]; unfold orM; split <;> simp_all
  · unfold orM at ho
    split at ho
    · rename_i hk; cases ho; exact (zeo (by simp) hk).1.symm
    · cases ho⟩
theorem zxd : MarksOk [[59]] seqM := ⟨rfl, by decide, fun t ht => by
  have h := zoq ht (m := 59) (by decide)
  refine ⟨?_, fun o ho => ?_⟩
  · rw [show ([[59]] : List Bys).contains t.text = (t.text == [59]) by rw [Bool.eq_iff_iff]; simp, h]; unfold seqM; split <;> simp_all
  · unfold seqM at ho
    split at ho
    · rename_i hk; cases ho; exact (zeo (by simp) hk).1.symm
    · cases ho⟩
theorem zy1 : MarksOk [[38], [92]] andM := ⟨rfl, by decide, fun t ht => by
  have h := zoq ht (m := 38) (by decide)
  have h' := zoq ht (m := 92) (by decide)
  refine ⟨?_, fun o ho => ?_⟩
  · rw [show ([[38], [92]] : List Bys).contains t.text = (t.text == [38] || t.text == [92]) by rw [Bool.eq_iff_iff]; simp, Bool.and_or_distrib_left, h, h']
    unfold andM
    cases (keyT t == [38]) <;> cases (keyT t == [92]) <;> rfl
  · unfold andM at ho
    split at ho
    · rename_i hk; cases ho; exact (zeo (by simp) hk).1.symm
    · split at ho
      · rename_i hk; cases ho; exact (zeo (by simp) hk).1.symm
      · cases ho⟩
theorem zu6 {P : RP} {h : Heap} {i d x a : Nat} (e : Rd P h i d x a) (n c : Nat) : blk (.slice (some ⟨h.length, 0, some 0⟩) n c) ≠ some P.r ∧ blk (.slice (some ⟨h.length, 0, some 0⟩) n c) ≠ some P.c := by
  have := e.lr; have := e.lc
  exact ⟨fun h => by simp [blk] at h; omega, fun h => by simp [blk] at h; omega⟩
section
variable {P : RP} {d : Nat} {f : List Tok → PR Ex}
theorem yeg (hF : zcc P jy d f) (hs : Shr f) : zcc P kh d (zc5 f seqM) := by
  intro h i e
  refine wx zc4 ?_
  have hm : Sl (h ++ [.cells [str [59]] 0 false]) (.slice (some ⟨h.length, 0, some 0⟩) 1 1) 1 ([[59]].map ze0) := zlk h [59]
  obtain ⟨v, h', q, x⟩ := zl0 hF hs zxd (e.more [.cells [str [59]] 0 false]) hm (zu6 e 1 1).1 (zu6 e 1 1).2
  obtain ⟨b, rfl⟩ := x.ptr
  simp only [zal, ya, xc, zb, yb, zm, zc, zo, zf, ze, zd, List.set_cons_succ, List.set_cons_zero, O_mv, ye, List.map_cons, List.map_nil, vf, w7, yd, z8, xe, xf, yx, Nat.lt_add_one, List.cons_append, List.nil_append, List.length_cons, List.length_nil, Nat.reduceSub, Nat.zero_add, zn, yc, za, slc, zh, zg, List.append_nil, wg, yj, wk, gw, q, wg, k8]
  cases hp : zc5 f seqM (P.L.drop i) with
  | ok n r =>
    rw [hp] at x
    obtain ⟨k, hk, e2, t2, m2⟩ := x
    exact ⟨k, hk, e2, t2.weak fun c hc => ⟨by have := hc.1; simp at this; omega, hc.2⟩, (Mv.add P h _).trans m2⟩
  | bad c a =>
    rw [hp] at x
    exact ⟨x.1, x.2.1, (Mv.add P h _).trans x.2.2.1, _, rfl⟩
theorem yel (hF : zcc P kh d f) (hs : Shr f) : zcc P kb d (zc5 f andM) := by
  intro h i e
  refine wx zc6 ?_
  have hm : Sl (h ++ [.cells [str [38], str [92]] 0 false]) (.slice (some ⟨h.length, 0, some 0⟩) 2 1) 1 ([[38], [92]].map ze0) := Sl.last h (by rfl) (by rfl) (by simp [ze0]) 0 false
  obtain ⟨v, h', q, x⟩ := zl0 hF hs zy1 (e.more [.cells [str [38], str [92]] 0 false]) hm (zu6 e 2 1).1 (zu6 e 2 1).2
  obtain ⟨b, rfl⟩ := x.ptr
  simp only [zam, ya, xc, zb, yb, zm, zc, zo, zf, ze, zd, List.set_cons_succ, List.set_cons_zero, O_mv, ye, List.map_cons, List.map_nil, vf, w7, yd, z8, xe, xf, yx, Nat.lt_add_one, Nat.zero_lt_succ, List.cons_append, List.nil_append, List.length_cons, List.length_nil, Nat.reduceAdd, Nat.reduceSub, Nat.zero_add, zn, yc, za, slc, zh, zg, List.append_nil, wg, yj, wk, gw, q, wg, k8]
  cases hp : zc5 f andM (P.L.drop i) with
  | ok n r =>
    rw [hp] at x
    obtain ⟨k, hk, e2, t2, m2⟩ := x
    exact ⟨k, hk, e2, t2.weak fun c hc => ⟨by have := hc.1; simp at this; omega, hc.2⟩, (Mv.add P h _).trans m2⟩
  | bad c a =>
    rw [hp] at x
    exact ⟨x.1, x.2.1, (Mv.add P h _).trans x.2.2.1, _, rfl⟩
theorem zo3 (hF : zcc P kb d f) (hs : Shr f) : zcc P xy d (zc5 f orM) := by
  intro h i e
  refine wx zao ?_
  have hm : Sl (h ++ [.cells [str [124]] 0 false]) (.slice (some ⟨h.length, 0, some 0⟩) 1 1) 1 ([[124]].map ze0) := zlk h [124]
  obtain ⟨v, h', q, x⟩ := zl0 hF hs ycd (e.more [.cells [str [124]] 0 false]) hm (zu6 e 1 1).1 (zu6 e 1 1).2
  obtain ⟨b, rfl⟩ := x.ptr
  simp only [bd, ya, xc, zb, yb, zm, zc, zo, zf, ze, zd, List.set_cons_succ, List.set_cons_zero, O_mv, ye, List.map_cons, List.map_nil, vf, w7, yd, z8, xe, xf, yx, Nat.lt_add_one, List.cons_append, List.nil_append, List.length_cons, List.length_nil, Nat.reduceSub, Nat.zero_add, zn, yc, za, slc, zh, zg, List.append_nil, wg, yj, wk, gw, q, wg, k8]
  cases hp : zc5 f orM (P.L.drop i) with
  | ok n r =>
    rw [hp] at x
    obtain ⟨k, hk, e2, t2, m2⟩ := x
    exact ⟨k, hk, e2, t2.weak fun c hc => ⟨by have := hc.1; simp at this; omega, hc.2⟩, (Mv.add P h _).trans m2⟩
  | bad c a =>
    rw [hp] at x
    exact ⟨x.1, x.2.1, (Mv.add P h _).trans x.2.2.1, _, rfl⟩
end
theorem zwq {P : RP} {d : Nat} {inner : Option (List Tok → PR Ex)} (hin : zlc P d inner) (hs : ∀ f, inner = some f → Shr f) : zcc P xy d (yac P.en (zpr P.en inner)) := by
  have s0 := zkr (e := P.en) hs
  have p0 := yf9 hin
  have s1 := zp2 (e := P.en) s0
  have p1 := ybr p0 s0
  have s2 := zqm s1
  have p2 := zzg p1 s1
  have s3 := zdk (m := seqM) s2
  have p3 := yeg p2 s2
  have s4 := zdk (m := andM) s3
  have p4 := yel p3 s3
  exact zo3 p4 s4
theorem zw0 (P : RP) : ∀ k d, d + k = 32 → zcc P xy d (zkl P.en k)
  | 0, d, h => zwq (show zlc P d none from by unfold zlc; omega) fun f hf => by cases hf
  | k + 1, d, h => zwq (show zlc P d (some (zkl P.en k)) from ⟨by omega, zw0 P k (d + 1) (by omega)⟩) fun f hf => by cases hf; exact zf1 _ _

/-! Behind a failure. -/
section
variable {P : RP}
theorem yef : zss P gm := by
  intro h i d c p e hc
  have : ∃ v h', DF FF gm [pt P.r] h = some (v, h') ∧ ∃ b, (v = pt b ∧ Rd P h' i d c p ∧ Mv P h h') := by
    refine wx zdw ?_
    have hw := zjk e 0 (by omega)
    rw [Nat.add_zero, Int.cast_ofNat_Int] at hw
    simp only [ww, ya, zt, xc, ym, zb, zz, yb, zm, zc, zp, zo, zf, ze, zd, List.set_cons_succ, List.set_cons_zero, O_mv, yg, O_un, ye, List.map_cons, List.map_nil, zx, zk, x9, y7, yd, z8, yx, wt, Nat.reduceLT, qe, List.cons_append, List.nil_append, List.length_cons, List.length_nil, Nat.reduceAdd, Nat.reduceSub, Nat.zero_add, Bool.not_false, zn, yc, zy, za, zi, yp, w6, xa, z7, zl, yr, z6, zq, zj, yh, zu, zr, zh, zg, List.append_assoc, List.length_append, Nat.add_zero, List.getElem?_cons_zero, wg, eq_self, yf, zs, yj, xg, hw, e.r1, at_c (e.more _), yf, zs, fe (e.more _) hc, wg, k8]
    exact ⟨_, rfl, e.more _, Mv.add P h _⟩
  obtain ⟨v, h', q, b, rfl, r⟩ := this
  exact ⟨b, h', q, r⟩
theorem zw2 : zss P ji := by
  intro h i d c p e hc
  have : ∃ v h', DF FF ji [pt P.r] h = some (v, h') ∧ ∃ b, (v = pt b ∧ Rd P h' i d c p ∧ Mv P h h') := by
    refine wx zco ?_
    obtain ⟨b, K, q, eK, mK⟩ := yef h i d c p e hc
    simp only [px, ya, zt, vj, xc, zb, zw, yb, zm, zc, zo, zf, ze, zd, List.set_cons_succ, List.set_cons_zero, O_mv, ye, List.map_cons, List.map_nil, List.cons_append, List.nil_append, List.length_cons, List.length_nil, Nat.reduceSub, Nat.zero_add, zn, yc, zy, za, yz, yk, zh, zg, wg, yj, q, ze4, fe eK hc, wg, k8]
    exact ⟨_, rfl, eK, mK⟩
  obtain ⟨v, h', q, b, rfl, r⟩ := this
  exact ⟨b, h', q, r⟩
theorem zv6 : zss P jy := by
  intro h i d c p e hc
  have : ∃ v h', DF FF jy [pt P.r] h = some (v, h') ∧ ∃ b, (v = pt b ∧ Rd P h' i d c p ∧ Mv P h h') := by
    refine wx zbt ?_
    obtain ⟨b, K, q, eK, mK⟩ := zw2 h i d c p e hc
    simp only [kv, ya, zt, xc, ym, zb, zw, yb, zm, yi, zc, vw, zo, zf, ze, zd, List.set_cons_succ, List.set_cons_zero, O_mv, y0, xi, ye, List.map_cons, List.map_nil, List.cons_append, List.nil_append, List.length_cons, List.length_nil, Nat.reduceSub, Nat.zero_add, zn, yc, za, zh, zg, wg, yj, q, fe eK hc, wg, k8]
    exact ⟨_, rfl, eK, mK⟩
  obtain ⟨v, h', q, b, rfl, r⟩ := this
  exact ⟨b, h', q, r⟩
theorem zi7 {F : FuncId} (hF : zss P F) {h : Heap} {i d c p : Nat} (e : Rd P h i d c p) (hc : c ≠ 0) (ms : Value) : ∃ b h', DF FF jc [pt P.r, .func (.func F) [pt P.r].toArray [].toArray, ms] h = some (pt b, h') ∧ Rd P h' i d c p ∧ Mv P h h' := by
  have : ∃ v h', DF FF jc [pt P.r, .func (.func F) [pt P.r].toArray [].toArray, ms] h = some (v, h') ∧ ∃ b, (v = pt b ∧ Rd P h' i d c p ∧ Mv P h h') := by
    refine wx zbu ?_
    obtain ⟨b, K, q, eK, mK⟩ := hF h i d c p e hc
    simp only [ph, ya, zt, vj, xc, zb, zw, yb, zm, yi, zc, vw, zo, zf, ze, zd, List.set_cons_succ, List.set_cons_zero, O_mv, y0, xi, ye, List.map_cons, List.map_nil, List.cons_append, List.nil_append, List.length_cons, List.length_nil, Nat.reduceAdd, Nat.reduceSub, Nat.zero_add, zn, yc, zy, za, yz, yk, zh, zg, List.append_nil, wg, yj, bn, jl, q, ze4, fe eK hc, wg, k8]
    exact ⟨_, rfl, eK, mK⟩
  obtain ⟨v, h', q, b, rfl, r⟩ := this
  exact ⟨b, h', q, r⟩
theorem zz6 : zss P kh := by
  intro h i d c p e hc
  have : ∃ v h', DF FF kh [pt P.r] h = some (v, h') ∧ ∃ b, (v = pt b ∧ Rd P h' i d c p ∧ Mv P h h') := by
    refine wx zc4 ?_
    obtain ⟨b, K, q, eK, mK⟩ := zi7 zv6 (e.more [.cells [str [59]] 0 false]) hc (.slice (some ⟨h.length, 0, some 0⟩) 1 1)
    simp only [zal, ya, xc, zb, yb, zm, zc, zo, zf, ze, zd, List.set_cons_succ, List.set_cons_zero, O_mv, ye, List.map_cons, List.map_nil, vf, w7, yd, z8, xe, xf, yx, Nat.lt_add_one, List.cons_append, List.nil_append, List.length_cons, List.length_nil, Nat.reduceSub, Nat.zero_add, zn, yc, za, slc, zh, zg, List.append_nil, wg, yj, wk, gw, q, wg, k8]
    exact ⟨_, rfl, eK, (Mv.add P h _).trans mK⟩
  obtain ⟨v, h', q, b, rfl, r⟩ := this
  exact ⟨b, h', q, r⟩
theorem yaa : zss P kb := by
  intro h i d c p e hc
  have : ∃ v h', DF FF kb [pt P.r] h = some (v, h') ∧ ∃ b, (v = pt b ∧ Rd P h' i d c p ∧ Mv P h h') := by
    refine wx zc6 ?_
    obtain ⟨b, K, q, eK, mK⟩ := zi7 zz6 (e.more [.cells [str [38], str [92]] 0 false]) hc (.slice (some ⟨h.length, 0, some 0⟩) 2 1)
    simp only [zam, ya, xc, zb, yb, zm, zc, zo, zf, ze, zd, List.set_cons_succ, List.set_cons_zero, O_mv, ye, List.map_cons, List.map_nil, vf, w7, yd, z8, xe, xf, yx, Nat.lt_add_one, Nat.zero_lt_succ, List.cons_append, List.nil_append, List.length_cons, List.length_nil, Nat.reduceAdd, Nat.reduceSub, Nat.zero_add, zn, yc, za, slc, zh, zg, List.append_nil, wg, yj, wk, gw, q, wg, k8]
    exact ⟨_, rfl, eK, (Mv.add P h _).trans mK⟩
  obtain ⟨v, h', q, b, rfl, r⟩ := this
  exact ⟨b, h', q, r⟩
theorem zh7 : zss P xy := by
  intro h i d c p e hc
  have : ∃ v h', DF FF xy [pt P.r] h = some (v, h') ∧ ∃ b, (v = pt b ∧ Rd P h' i d c p ∧ Mv P h h') := by
    refine wx zao ?_
    obtain ⟨b, K, q, eK, mK⟩ := zi7 yaa (e.more [.cells [str [124]] 0 false]) hc (.slice (some ⟨h.length, 0, some 0⟩) 1 1)
    simp only [bd, ya, xc, zb, yb, zm, zc, zo, zf, ze, zd, List.set_cons_succ, List.set_cons_zero, O_mv, ye, List.map_cons, List.map_nil, vf, w7, yd, z8, xe, xf, yx, Nat.lt_add_one, List.cons_append, List.nil_append, List.length_cons, List.length_nil, Nat.reduceSub, Nat.zero_add, zn, yc, za, slc, zh, zg, List.append_nil, wg, yj, wk, gw, q, wg, k8]
    exact ⟨_, rfl, eK, (Mv.add P h _).trans mK⟩
  obtain ⟨v, h', q, b, rfl, r⟩ := this
  exact ⟨b, h', q, r⟩
end
end Go.Proofs.YtljdbheclfaloaaGreatDoor.AM
namespace Go.Proofs.YtljdbheclfaloaaGreatDoor.AM
open Go.RowKit
set_option linter.unusedSimpArgs false
set_option linter.unusedVariables false

theorem zib {e : Nat} {ts r : List Tok} {g : Gv} (h : zl7 e ts = .ok g r) : r.length < ts.length := by
  unfold zl7 at h
  cases ts with
  | nil => cases h
  | cons t ts =>
    rw [zm9] at h
    split at h
    · cases h
    · rename_i w r0 hn
      have h0 : r0.length < (t :: ts).length := by
        split at hn
        · cases hn; simp
        · cases hn
      split at h
      · cases h
      · rename_i u r1 he
        have h1 : r1.length < r0.length := by
          cases r0 with
          | nil => cases he
          | cons t0 r0 =>
            rw [eatP] at he
            split at he
            · cases he; simp
            · cases he
        split at h
        · cases h
        · rename_i x r2 hx
          have h2 := zf1 e 32 _ _ _ hx
          cases h
          omega
theorem zhk (e : Nat) : ∀ k k' ts, ts.length < k → ts.length < k' → p9 e k ts = p9 e k' ts
  | 0, k', ts, h, h' => by omega
  | k + 1, 0, ts, h, h' => by omega
  | k + 1, k' + 1, ts, h, h' => by
    rw [p9, p9]
    cases hg : zl7 e ts with
    | bad c a => rfl
    | ok g r =>
      have := zib hg
      cases r with
      | nil => rfl
      | cons t r =>
        simp only [List.length_cons] at this
        simp only
        rw [zhk e k k' r (by omega) (by omega)]
theorem zz9 {P : RP} {k k' : Nat} {g : Gv} (h : zl7 P.en (P.L.drop k) = .ok g (P.L.drop k')) : p9 P.en (P.L.length + 1) (P.L.drop k) = if keyT (y3 P k') == wAnd then (match p9 P.en (P.L.length + 1) (P.L.drop (k' + 1)) with
    | .bad c a => .bad c a
    | .ok gs r2 => .ok (g :: gs) r2) else .ok [g] (P.L.drop k') := by
  have hs := zib h
  simp only [List.length_drop] at hs
  rw [p9, h]
  by_cases hk : k' < P.L.length
  · rw [gz hk]
    simp only
    rw [zhk P.en P.L.length (P.L.length + 1) (P.L.drop (k' + 1)) (by simp; omega) (by simp; omega)]
    skip
  · rw [List.drop_eq_nil_of_le (by omega), j8 hk, zew]; rfl
theorem zzl {e : Nat} {ts : List Tok} {c a n : Nat} (h : zl7 e ts = .bad c a) : p9 e (n + 1) ts = .bad c a := by rw [p9, h]
theorem zuw (P : RP) (k : Nat) : zm9 P.en (P.L.drop k) = if zbn (y3 P k) then .ok ((y3 P k).text, (y3 P k).at_) (P.L.drop (k + 1)) else .bad (zai P k) (za1 P k) := by
  unfold zai za1
  by_cases hk : k < P.L.length
  · rw [gz hk, zm9, if_pos hk, if_pos hk]
  · rw [List.drop_eq_nil_of_le (by omega), j8 hk, if_neg hk, if_neg hk]; rfl
theorem yft (P : RP) (k : Nat) {m : Bys} (hm : m ≠ []) : eatP P.en m (P.L.drop k) = if keyT (y3 P k) == m then .ok () (P.L.drop (k + 1)) else .bad (zai P k) (za1 P k) := by
  unfold zai za1
  by_cases hk : k < P.L.length
  · rw [gz hk, eatP, if_pos hk, if_pos hk]
  · rw [List.drop_eq_nil_of_le (by omega), j8 hk, if_neg hk, if_neg hk, zew, if_neg (by simpa using hm)]; rfl

/-! Statements in memory. -/
def qi (g : Gv) (v : Value) : List Value := [str g.name, .int .i64 (g.at_ : Int), v]
def GsP (h : Heap) : (Nat → Prop) → List Value → List Gv → Prop
  | _, [], [] => True
  | S, v :: vs, g :: gs => ∃ S1 S2, TreeP h S1 v g.e ∧ GsP h S2 vs gs ∧ (∀ z, S1 z → S z ∧ ¬ S2 z) ∧ ∀ z, S2 z → S z
  | _, _, _ => False
theorem GsP.keep {h h' : Heap} : ∀ {S : Nat → Prop} {vs : List Value} {gs : List Gv}, GsP h S vs gs → (∀ b o, S b → h[b]? = some o → h'[b]? = some o) → GsP h' S vs gs
  | S, [], [], e, k => trivial
  | S, v :: vs, g :: gs, e, k => by
    obtain ⟨S1, S2, t, r, h1, h2⟩ := e
    exact ⟨S1, S2, t.keep fun b o hb => k b o (h1 b hb).1, r.keep fun b o hb => k b o (h2 b hb), h1, h2⟩
  | S, [], _ :: _, e, k => e.elim
  | S, _ :: _, [], e, k => e.elim
theorem GsP.len {h : Heap} : ∀ {S : Nat → Prop} {vs : List Value} {gs : List Gv}, GsP h S vs gs → vs.length = gs.length
  | S, [], [], e => rfl
  | S, v :: vs, g :: gs, e => by obtain ⟨S1, S2, t, r, h1, h2⟩ := e; simp [r.len]
  | S, [], _ :: _, e => e.elim
  | S, _ :: _, [], e => e.elim
theorem GsP.snoc {h : Heap} {T : Nat → Prop} {v : Value} {g : Gv} (t : TreeP h T v g.e) : ∀ {S : Nat → Prop} {vs : List Value} {gs : List Gv}, GsP h S vs gs → (∀ z, S z → ¬ T z) → GsP h (fun z => S z ∨ T z) (vs ++ [v]) (gs ++ [g])
  | S, [], [], e, hd => ⟨T, fun _ => False, t, trivial, fun z hz => ⟨.inr hz, id⟩, fun z hz => hz.elim⟩
  | S, w :: vs, f :: gs, e, hd => by
    obtain ⟨S1, S2, t1, r, h1, h2⟩ := e
    exact ⟨S1, fun z => S2 z ∨ T z, t1, r.snoc t fun z hz => hd z (h2 z hz), fun z hz => ⟨.inl (h1 z hz).1, fun h => h.elim (h1 z hz).2 (hd z (h1 z hz).1)⟩, fun z hz => hz.imp (h2 z) id⟩
  | S, [], _ :: _, e, hd => e.elim
  | S, _ :: _, [], e, hd => e.elim
def ckS : Ck → Bys
  | .acyclic => pq
  | .irr => wIrr
  | .empty => zdt
def kwOf (rc : Bool) : Bys := if rc then wRec else wLet
def StP (h : Heap) (T : Nat → Prop) (row : List Value) : Stm → Prop
  | .lets rc gs => ∃ s vs S, row = [str (kwOf rc), s, nilP, str []] ∧ Sl h s 3 (List.zipWith qi gs vs) ∧ GsP h S vs gs ∧ (∀ z, S z → T z ∧ blk s ≠ some z) ∧ ∀ b, blk s = some b → T b
  | .chk k x as_ => ∃ v, row = [str (ckS k), nils, v, str as_] ∧ TreeP h T v x
theorem StP.keep {h h' : Heap} {T : Nat → Prop} {row : List Value} {s : Stm} (e : StP h T row s) (k : ∀ b o, T b → h[b]? = some o → h'[b]? = some o) : StP h' T row s := by
  cases s with
  | lets rc gs =>
    obtain ⟨s, vs, S, hr, hs, hg, h1, h2⟩ := e
    exact ⟨s, vs, S, hr, hs.keep fun b hb o ho => k b o (h2 b hb) ho, hg.keep fun b o hb => k b o (h1 b hb).1, h1, h2⟩
  | chk c x as_ =>
    obtain ⟨v, hr, ht⟩ := e
    exact ⟨v, hr, ht.keep k⟩
theorem StP.len {h : Heap} {T : Nat → Prop} {row : List Value} {s : Stm} (e : StP h T row s) : row.length = 4 := by
  cases s with
  | lets rc gs => obtain ⟨s, vs, S, hr, _⟩ := e; rw [hr]; rfl
  | chk c x as_ => obtain ⟨v, hr, ht⟩ := e; rw [hr]; rfl
def StsP (h : Heap) : (Nat → Prop) → List (List Value) → List Stm → Prop
  | _, [], [] => True
  | T, row :: rows, s :: l => ∃ T1 T2, StP h T1 row s ∧ StsP h T2 rows l ∧ (∀ z, T1 z → T z ∧ ¬ T2 z) ∧ ∀ z, T2 z → T z
  | _, _, _ => False
theorem StsP.keep {h h' : Heap} : ∀ {T : Nat → Prop} {rows : List (List Value)} {l : List Stm}, StsP h T rows l → (∀ b o, T b → h[b]? = some o → h'[b]? = some o) → StsP h' T rows l
  | T, [], [], e, k => trivial
  | T, v :: vs, g :: gs, e, k => by
    obtain ⟨S1, S2, t, r, h1, h2⟩ := e
    exact ⟨S1, S2, t.keep fun b o hb => k b o (h1 b hb).1, r.keep fun b o hb => k b o (h2 b hb), h1, h2⟩
  | T, [], _ :: _, e, k => e.elim
  | T, _ :: _, [], e, k => e.elim
theorem StsP.len {h : Heap} : ∀ {T : Nat → Prop} {rows : List (List Value)} {l : List Stm}, StsP h T rows l → rows.length = l.length ∧ ∀ r ∈ rows, r.length = 4
  | T, [], [], e => ⟨rfl, by simp⟩
  | T, v :: vs, g :: gs, e => by
    obtain ⟨S1, S2, t, r, h1, h2⟩ := e
    refine ⟨by simp [r.len.1], fun x hx => ?_⟩
    rcases List.mem_cons.1 hx with rfl | hx
    · exact t.len
    · exact r.len.2 x hx
  | T, [], _ :: _, e => e.elim
  | T, _ :: _, [], e => e.elim
theorem StsP.snoc {h : Heap} {U : Nat → Prop} {row : List Value} {s : Stm} (t : StP h U row s) : ∀ {T : Nat → Prop} {rows : List (List Value)} {l : List Stm}, StsP h T rows l → (∀ z, T z → ¬ U z) → StsP h (fun z => T z ∨ U z) (rows ++ [row]) (l ++ [s])
  | T, [], [], e, hd => ⟨U, fun _ => False, t, trivial, fun z hz => ⟨.inr hz, id⟩, fun z hz => hz.elim⟩
  | T, w :: vs, f :: gs, e, hd => by
    obtain ⟨S1, S2, t1, r, h1, h2⟩ := e
    exact ⟨S1, fun z => S2 z ∨ U z, t1, r.snoc t fun z hz => hd z (h2 z hz), fun z hz => ⟨.inl (h1 z hz).1, fun h => h.elim (h1 z hz).2 (hd z (h1 z hz).1)⟩, fun z hz => hz.imp (h2 z) id⟩
  | T, [], _ :: _, e, hd => e.elim
  | T, _ :: _, [], e, hd => e.elim
theorem GsP.get {h : Heap} : ∀ {S : Nat → Prop} {vs : List Value} {gs : List Gv}, GsP h S vs gs → ∀ (k : Nat) (g : Gv), gs[k]? = some g → ∃ v S', vs[k]? = some v ∧ TreeP h S' v g.e ∧ ∀ z, S' z → S z
  | S, [], [], e, k, g, hk => by simp at hk
  | S, v :: vs, g' :: gs, e, 0, g, hk => by
    obtain ⟨S1, S2, t, r, h1, h2⟩ := e
    cases hk
    exact ⟨v, S1, rfl, t, fun z hz => (h1 z hz).1⟩
  | S, v :: vs, g' :: gs, e, k + 1, g, hk => by
    obtain ⟨S1, S2, t, r, h1, h2⟩ := e
    obtain ⟨w, S', a, b, c⟩ := r.get k g (by simpa using hk)
    exact ⟨w, S', by simpa using a, b, fun z hz => h2 z (c z hz)⟩
  | S, [], _ :: _, e, k, g, hk => e.elim
  | S, _ :: _, [], e, k, g, hk => e.elim
end Go.Proofs.YtljdbheclfaloaaGreatDoor.AM
namespace Go.Proofs.YtljdbheclfaloaaGreatDoor.AM
open Go.RowKit
set_option linter.unusedSimpArgs false
set_option linter.unusedVariables false

def z4 : List Value := [str [], .slice none 0 0, nilP, str []]
theorem zip (z0 z1 z2 a b c : Value) : wo [z0, z1, z2] [(0, 3, agg [a, b, c])] = some [a, b, c] := by
  rw [wo, yf]; simp [splice, wo]
theorem Own.slice {h H : Heap} {s : Value} {c : Nat} {rows : List (List Value)} (e : Own h H s c rows) : ∃ a n c', s = .slice a n c' := by
  rcases e with ⟨⟨rfl, _⟩ | ⟨b, ver, _, rfl, _⟩, _⟩
  · exact ⟨_, _, _, rfl⟩
  · exact ⟨_, _, _, rfl⟩
theorem yb9 {P : RP} {h K3 : Heap} {i k d x a g : Nat} {rows : List (List Value)} {s x0 : Value} {w : Bys} {p : Int} {kw : Bys} (v : Value) (e : Rd P h i 0 0 0) (eK : Rd P K3 k d x a) (hg : K3[g]? = some (.cells [str w, .int .i64 p, x0] 0 false)) (hgl : h.length + 2 ≤ g) (hgs : blk s ≠ some g) (h0 : K3[h.length]? = some (.cells z4 0 false))
    (h1 : K3[h.length + 1]? = some (.cells [str kw, s, nilP, str []] 0 false)) (own : Own [] K3 s 3 rows) (hb : ∀ b, blk s = some b → h.length + 2 ≤ b) (room : rows.length ≤ 10000) (mK : Mv P h K3) :
    ∃ a' n' c' K4, ge (K3.set g (.cells [str w, .int .i64 p, v] 0 false) ++ [.cells [str w, .int .i64 p, v] 0 false]) 3 32 s (zdl (K3.set g (.cells [str w, .int .i64 p, v] 0 false) ++ [.cells [str w, .int .i64 p, v] 0 false]) 3 (.slice (some ⟨K3.length, 0, some 0⟩) 1 3)) = some (.slice a' n' c', K4) ∧
      K4[h.length + 1]? = some (.cells [str kw, s, nilP, str []] 0 false) ∧
      Rd P (K4.set (h.length + 1) (.cells [str kw, .slice a' n' c', nilP, str []] 0 false)) k d x a ∧ (K4.set (h.length + 1) (.cells [str kw, .slice a' n' c', nilP, str []] 0 false))[h.length]? = some (.cells z4 0 false) ∧
      (K4.set (h.length + 1) (.cells [str kw, .slice a' n' c', nilP, str []] 0 false))[h.length + 1]? = some (.cells [str kw, .slice a' n' c', nilP, str []] 0 false) ∧
      Own [] (K4.set (h.length + 1) (.cells [str kw, .slice a' n' c', nilP, str []] 0 false)) (.slice a' n' c') 3 (rows ++ [[str w, .int .i64 p, v]]) ∧ (∀ b, blk (.slice a' n' c') = some b → h.length + 2 ≤ b) ∧
      (∀ z, z < K3.length → blk s ≠ some z → blk (.slice a' n' c') ≠ some z) ∧ Mv P h (K4.set (h.length + 1) (.cells [str kw, .slice a' n' c', nilP, str []] 0 false)) ∧
      (∀ b o, K3[b]? = some o → b ≠ g → b ≠ h.length + 1 → blk s ≠ some b → (K4.set (h.length + 1) (.cells [str kw, .slice a' n' c', nilP, str []] 0 false))[b]? = some o) ∧ K3.length ≤ (K4.set (h.length + 1) (.cells [str kw, .slice a' n' c', nilP, str []] 0 false)).length := by
  have lr := e.lr; have lc := e.lc
  have own2 : Own [] (K3.set g (.cells [str w, .int .i64 p, v] 0 false)) s 3 rows := own.keep fun b hb' o ho => by rw [List.getElem?_set_ne (by rintro rfl; exact hgs hb')]; exact ho
  obtain ⟨s', K4, q1, q2, q3, q4, q5, q6⟩ := own2.push (⟨_, rfl⟩ : Pre [] _) (row := [str w, .int .i64 p, v]) (bytes := 32) rfl (by unfold fm; omega)
  rw [List.length_set] at q1 q4 q6
  have hbn : ∀ b, b < h.length + 2 → blk s ≠ some b := fun b hlt hbb => by have := hb b hbb; omega
  have old : ∀ b o, K3[b]? = some o → b ≠ g → blk s ≠ some b → K4[b]? = some o := fun b o ho n1 n2 => q5 b o (by rw [List.getElem?_set_ne (Ne.symm n1)]; exact ho) n2
  obtain ⟨a', n', c', rfl⟩ := q2.slice
  have f1 : K4[h.length + 1]? = some (.cells [str kw, s, nilP, str []] 0 false) := old _ _ h1 (by omega) (hbn _ (by omega))
  have hlt : h.length + 1 < K4.length := (List.getElem?_eq_some_iff.1 f1).1
  have blk' : ∀ b, blk (.slice a' n' c') = some b → h.length + 2 ≤ b := fun b hb' => by
    rcases q6 with q6 | ⟨j, q6, q7⟩
    · rw [q6] at hb'; exact hb b hb'
    · rw [q6] at hb'; cases hb'
      have := (List.getElem?_eq_some_iff.1 hg).1; omega
  have keep : ∀ b o, K3[b]? = some o → b ≠ g → b ≠ h.length + 1 → blk s ≠ some b → (K4.set (h.length + 1) (.cells [str kw, .slice a' n' c', nilP, str []] 0 false))[b]? = some o := fun b o ho n1 n2 n3 => by
    rw [List.getElem?_set_ne (Ne.symm n2)]; exact old b o ho n1 n3
  have m2 : Mv P K3 K4 → True := fun _ => trivial
  have mE : Mv P h (K4.set (h.length + 1) (.cells [str kw, .slice a' n' c', nilP, str []] 0 false)) := ⟨fun b o ho n1 n2 => by
    have hl := (List.getElem?_eq_some_iff.1 ho).1
    exact keep b o (mK.keep b o ho n1 n2) (by omega) (by omega) (hbn b (by omega)), by rw [List.length_set]; have := mK.le; omega⟩
  refine ⟨a', n', c', K4, q1, f1, ?_, ?_, ?_, ?_, blk', ?_, mE, keep, by rw [List.length_set]; omega⟩
  · exact ⟨keep _ _ eK.hr (by omega) (by omega) (hbn _ (by omega)), keep _ _ eK.hc (by omega) (by omega) (hbn _ (by omega)),
      eK.sw.keep fun b hb' o ho => by have := e.sw.lt hb'; exact keep b o ho (by omega) (by omega) (hbn b (by omega)), eK.sc.keep fun b hb' o ho => by have := e.sc.lt hb'; exact keep b o ho (by omega) (by omega) (hbn b (by omega)), eK.le⟩
  · exact keep _ _ h0 (by omega) (by omega) (hbn _ (by omega))
  · rw [List.getElem?_set_self hlt]
  · exact q2.keep fun b hb' o ho => by rw [List.getElem?_set_ne (by have := blk' b hb'; omega)]; exact ho
  · intro z hz hzs hb'
    rcases q6 with q6 | ⟨j, q6, q7⟩
    · rw [q6] at hb'; exact hzs hb'
    · rw [q6] at hb'; cases hb'; omega
def StR (P : RP) (h : Heap) (v : Value) (h' : Heap) : PR Stm → Prop
  | .ok s r => ∃ row k, v = agg row ∧ r = P.L.drop k ∧ Rd P h' k 0 0 0 ∧ StP h' (Iv h.length h'.length) row s ∧ Mv P h h'
  | .bad c p => ∃ row, v = agg row ∧ row.length = 4 ∧ c ≠ 0 ∧ (∃ k, Rd P h' k 0 c p) ∧ Mv P h h'
def LetS (P : RP) (h : Heap) (R : PR Stm) (rc : Bool) (m : Nat) (K : Heap) (k : Nat) : Prop :=
  ∃ s vs S acc, m = P.L.length - k + 1 ∧ Rd P K k 0 0 0 ∧ K[h.length]? = some (.cells z4 0 false) ∧ K[h.length + 1]? = some (.cells [str (kwOf rc), s, nilP, str []] 0 false) ∧ Own [] K s 3 (List.zipWith qi acc vs) ∧ GsP K S vs acc ∧
    (∀ z, S z → h.length + 2 ≤ z ∧ z < K.length ∧ blk s ≠ some z) ∧ (∀ b, blk s = some b → h.length + 2 ≤ b) ∧ Mv P h K ∧ acc.length ≤ k ∧
    (match p9 P.en (P.L.length + 1) (P.L.drop k) with | .bad c a => R = .bad c a | .ok gs r => R = .ok (.lets rc (acc ++ gs)) r)
def LetI (P : RP) (h : Heap) (R : PR Stm) (rc : Bool) (i : Nat) (m : Nat) (st : St) : Prop := ∃ K k, i < k ∧ (∃ j : Nat → Value, st = ⟨[pt P.r, j 1, pt h.length, pt (h.length + 1), j 4, j 5, j 6, j 7, j 8, j 9, j 10, j 11, j 12, j 13, j 14, j 15, j 16, j 17, j 18, j 19, j 20, j 21, j 22, j 23, j 24, j 25, j 26, j 27, j 28, j 29, j 30, j 31, j 32, j 33, j 34, j 35, j 36, j 37, j 38, j 39, j 40, j 41, j 42, j 43, j 44, j 45, j 46, j 47, j 48, j 49, j 50, j 51, j 52, j 53, j 54, j 55, j 56, j 57, j 58, j 59, j 60, j 61, j 62, j 63, j 64, j 65, j 66, j 67, j 68, j 69, j 70, j 71, j 72, j 73, j 74, j 75, j 76, j 77, j 78, j 79, j 80, j 81, j 82, j 83, j 84, j 85, j 86, j 87, j 88, j 89, j 90, j 91, j 92, j 93, j 94, j 95, j 96, j 97], K⟩) ∧ LetS P h R rc m K k
theorem zet {vs : List Value} {gs : List Gv} (h : vs.length = gs.length) : (List.zipWith qi gs vs).length = gs.length := by simp [h]
theorem yam {vs : List Value} {gs : List Gv} (h : vs.length = gs.length) (g : Gv) (v : Value) : List.zipWith qi (gs ++ [g]) (vs ++ [v]) = List.zipWith qi gs vs ++ [qi g v] := by
  rw [List.zipWith_append h.symm]; rfl
theorem ydv (P : RP) (k : Nat) : zl7 P.en (P.L.drop k) = if zbn (y3 P k) then (if keyT (y3 P (k + 1)) == [61] then (match zkl P.en 32 (P.L.drop (k + 1 + 1)) with
      | .bad c a => .bad c a
      | .ok x r2 => .ok ⟨(y3 P k).text, (y3 P k).at_, x⟩ r2) else .bad (zai P (k + 1)) (za1 P (k + 1))) else .bad (zai P k) (za1 P k) := by
  unfold zl7
  rw [zuw]
  cases zbn (y3 P k)
  · rfl
  · simp only [if_true]
    rw [yft P (k + 1) (m := [61]) (by simp)]
    cases (keyT (y3 P (k + 1)) == [61])
    · rfl
    · simp only [if_true]; skip
end Go.Proofs.YtljdbheclfaloaaGreatDoor.AM
