/-
  The machine, the functions, what they come to: part 6.
  Conditions: as each says.
-/
import Derived.Test.YtljdbheclfaloaaGreatDoorKb5
namespace Go.Proofs.YtljdbheclfaloaaGreatDoor.AM
open Go.RowKit
set_option linter.unusedSimpArgs false
set_option linter.unusedVariables false

theorem zet {t : Tok} {m : Bys} (hm : m ≠ []) (h : (keyT t == m) = true) : t.text = m ∧ t.kind ≠ 2 := by
  unfold keyT at h
  by_cases h2 : t.kind = 2
  · rw [if_pos h2] at h; exact absurd (by simpa using h) hm
  · rw [if_neg h2] at h; exact ⟨by simpa using h, h2⟩
theorem znu {P : RP} {k : Nat} {m : Bys} (hm : m ≠ []) (h : (keyT (y4 P k) == m) = true) : k < P.L.length := by
  by_cases hk : k < P.L.length
  · exact hk
  · rw [j1 hk, zeu] at h; exact absurd (by simpa using h) hm
theorem zwe (P : RP) (k : Nat) : zew (P.L.drop k) = ((y4 P k).kind == 2 || (zbc (y4 P k) || (keyT (y4 P k) == [40] || keyT (y4 P k) == [91]))) := by
  by_cases hk : k < P.L.length
  · rw [gw hk]; rfl
  · rw [List.drop_eq_nil_of_le (by omega), j1 hk]; rfl
theorem yeo (P : RP) (f : List Tok → PR Ex) (k : Nat) : inv2 P.en f (P.L.drop k) = if keyT (y4 P k) == [45] then inv3 P.en f (P.L.drop (k + 1)) else .bad (zat P k) (za9 P k) := by
  unfold zat za9
  by_cases hk : k < P.L.length
  · rw [gw hk, inv2, if_pos hk, if_pos hk]
  · rw [List.drop_eq_nil_of_le (by omega), j1 hk, if_neg hk, if_neg hk]; rfl
theorem yec (P : RP) (f : List Tok → PR Ex) (k : Nat) : inv3 P.en f (P.L.drop k) = if (y4 P k).kind == 2 && (y4 P k).n == 1 then f (P.L.drop (k + 1)) else .bad (zat P k) (za9 P k) := by
  unfold zat za9
  by_cases hk : k < P.L.length
  · rw [gw hk, inv3, if_pos hk, if_pos hk]
  · rw [List.drop_eq_nil_of_le (by omega), j1 hk, if_neg hk, if_neg hk]; rfl
theorem yfc (P : RP) (n : Ex) (k : Nat) : pq P.en P.L.length n (P.L.drop k) = if keyT (y4 P k) == [43] then pq P.en P.L.length (.un .plus n) (P.L.drop (k + 1))
    else if keyT (y4 P k) == [63] then pq P.en P.L.length (.un .maybe n) (P.L.drop (k + 1))
    else if keyT (y4 P k) == [42] && !zew (P.L.drop (k + 1)) then pq P.en P.L.length (.un .star n) (P.L.drop (k + 1))
    else if keyT (y4 P k) == [94] then inv2 P.en (fun r => pq P.en P.L.length (.un .inv n) r) (P.L.drop (k + 1))
    else .ok n (P.L.drop k) := by
  by_cases hk : k < P.L.length
  · obtain ⟨q, hq⟩ : ∃ q, P.L.length = q + 1 := ⟨P.L.length - 1, by omega⟩
    have f : ∀ (x : Ex) (r : List Tok), r.length < P.L.length - k → pq P.en q x r = pq P.en (q + 1) x r := fun x r hr => zcc _ _ _ _ _ (by omega) (by omega)
    have hl : (P.L.drop (k + 1)).length < P.L.length - k := by simp; omega
    rw [gw hk, hq, pq, f _ _ hl, f _ _ hl, f _ _ hl, znf fun r hr => f (.un .inv n) r (by omega)]
  · rw [List.drop_eq_nil_of_le (by omega), j1 hk]
    cases P.L.length <;> rfl
theorem zke (t : Tok) : ((t.kind : Int) == 2) = (t.kind == 2) := by rw [Bool.eq_iff_iff]; simp; omega
theorem yad {h K : Heap} {b : Nat} {n : Ex} {o : Op1} (t : TreeP K (Iv h.length K.length) (pt b) n) {L : Heap} {j : Nat} (hL : L[j]? = some (.cells (vh (op1S o) [] n.pl (pt b) nilP false) 0 false)) (hh : h.length ≤ K.length) : TreeP (K ++ L) (Iv h.length (K ++ L).length) (pt (K.length + j)) (.un o n) := by
  have hj := (List.getElem?_eq_some_iff.1 hL).1
  refine ⟨K.length + j, Iv h.length K.length, pt b, rfl, ⟨by omega, by simp; omega⟩, ?_, t.keep fun c o _ ho => y8 _ ho, fun y hy => ⟨⟨hy.1, by have := hy.2; simp; omega⟩, by have := hy.2; omega⟩⟩
  rw [List.getElem?_append_right (by omega), Nat.add_sub_cancel_left]; exact hL
def BehS (P : RP) (h : Heap) (d : Nat) (R : PR Ex) (m : Nat) (K : Heap) (k : Nat) (v : Value) : Prop :=
  (∃ n, m = P.L.length - k + 1 ∧ Rd P K k d 0 0 ∧ TreeP K (Iv h.length K.length) v n ∧ Mv P h K ∧ pq P.en P.L.length n (P.L.drop k) = R) ∨
  (∃ c p b, m = 0 ∧ v = pt b ∧ R = .bad c p ∧ c ≠ 0 ∧ Rd P K k d c p ∧ Mv P h K)
def BehI (P : RP) (h : Heap) (d : Nat) (R : PR Ex) (m : Nat) (st : St) : Prop := ∃ K k v, (∃ j : Nat → Value, st = ⟨[pt P.r, j 1, .pointer none, v, j 4, j 5, j 6, j 7, j 8, j 9, j 10, j 11, j 12, j 13, j 14, j 15, j 16, j 17, j 18, j 19, j 20, j 21, j 22, j 23, j 24, j 25, j 26, j 27, j 28, j 29, j 30, j 31, j 32, j 33, j 34, j 35, j 36, j 37, j 38, j 39, j 40, j 41, j 42, j 43, j 44, j 45, j 46, j 47, j 48, j 49, j 50, j 51, j 52, j 53, j 54, j 55, j 56, j 57, j 58, j 59, j 60, j 61, j 62, j 63, j 64, j 65, j 66, j 67, j 68, j 69, j 70, j 71, j 72, j 73, j 74, j 75, j 76, j 77, j 78, j 79, j 80, j 81, j 82, j 83, j 84, j 85, j 86], K⟩) ∧ BehS P h d R m K k v
theorem bd (op w : Bys) (a : Nat) (l r : Value) (s : Bool) : (vh op w a l r s)[2]? = some (.int .i64 (a : Int)) := rfl
set_option maxHeartbeats 2000000 in
theorem ybc {P : RP} {d : Nat} {prim : List Tok → PR Ex} (hF : zc1 P gi d prim) (hs : Shr prim) : zc1 P qz d (zif P.en prim) := by
  intro h i e
  refine ww zcy ?_
  obtain ⟨v0, h0, q0, x0⟩ := hF h i e
  simp only [zaf, ya, zb, yb, zm, zc, zo, zf, ze, zd, List.set_cons_succ, List.set_cons_zero, O_mv, ye, List.map_cons, List.map_nil, List.cons_append, List.nil_append, List.length_cons, List.length_nil, Nat.reduceSub, Nat.zero_add, zn, yc, zz, za, zh, zg, yj, q0]
  obtain ⟨R, hR⟩ : ∃ R, R = zif P.en prim (P.L.drop i) := ⟨_, rfl⟩
  rw [← hR]
  have lr := e.lr; have lc := e.lc
  refine zi4 (BehI P h d R) ?_ (match prim (P.L.drop i) with | .ok n r => r.length + 1 | .bad c p => 0) _ ?_
  · rintro m st ⟨K, k, v, ⟨j, rfl⟩, ⟨n, rfl, eK, tK, mK, hb⟩ | ⟨c, p, b, rfl, rfl, hb, hc, eK, mK⟩⟩
    · have i43 := is_c eK (m := 43) (by decide)
      have i63 := is_c eK (m := 63) (by decide)
      have i42 := is_c eK (m := 42) (by decide)
      have i94 := is_c eK (m := 94) (by decide)
      have hw1 := zj3 eK 1 (by omega)
      simp only [Int.cast_ofNat_Int] at hw1
      have hbg := ycb (y4 P (k + 1)) (zul P (k + 1)) K
      rw [← zwe] at hbg
      obtain ⟨b, op, w, l, r, rfl, hbS, hbo⟩ := tK.root
      have l0 := mK.le
      rw [yfc] at hb
      -- one mark behind
      have one : ∀ (o : Op1), (keyT (y4 P k) == op1S o) = true → R = pq P.en P.L.length (.un o n) (P.L.drop (k + 1)) →
          ∃ K1, DF FF wx [pt P.c] K = some (tup [agg (vp (y4 P k)), .bool true], K1) ∧ (y4 P k).text = op1S o ∧ (∀ j, Heap.read1 (K1 ++ [.cells (vp (y4 P k)) 0 false]) ⟨b, j, some 0⟩ = (vh op w n.pl l r n.set)[j]?) ∧
            ∃ m', m' < P.L.length - k + 1 ∧ BehS P h d R m' (K1 ++ [.cells (vp (y4 P k)) 0 false, .cells (vh (op1S o) [] n.pl (pt b) nilP false) 0 false]) (k + 1) (pt (K1.length + 1)) := by
        intro o hk hR2
        have hne : op1S o ≠ [] := by cases o <;> simp [op1S]
        have hlt := znu hne hk
        obtain ⟨K1, q1, e1, m1⟩ := zh7 eK hlt
        have tn1 : TreeP K1 (Iv h.length K1.length) (pt b) n := (tK.keep fun c o hc ho => m1.keep c o ho (by have := hc.1; omega) (by have := hc.1; omega)).weak fun c hc => ⟨hc.1, by have := hc.2; have := m1.le; omega⟩
        refine ⟨K1, q1, (zet hne hk).1, fun j => x5 (y8 _ (m1.keep b _ hbo (by have := hbS.1; omega) (by have := hbS.1; omega))), P.L.length - (k + 1) + 1, by omega, .inl ⟨.un o n, rfl, e1.more _, ?_, (mK.trans m1).more _, hR2.symm⟩⟩
        exact yad tn1 (L := [.cells (vp (y4 P k)) 0 false, .cells (vh (op1S o) [] n.pl (pt b) nilP false) 0 false]) (j := 1) rfl (by have := m1.le; omega)
      cases k43 : (keyT (y4 P k) == [43])
      · cases k63 : (keyT (y4 P k) == [63])
        · cases k42 : (keyT (y4 P k) == [42] && !zew (P.L.drop (k + 1)))
          · rw [k43, k63, k42] at hb
            simp only [Bool.false_eq_true, if_false] at hb
            have skip : ∀ (Q : Prop), ((keyT (y4 P k) == [42]) = false → Q) → ((keyT (y4 P k) == [42]) = true ∧ zew (P.L.drop (k + 1)) = true → Q) → Q := fun Q a b => by
              cases h1 : (keyT (y4 P k) == [42])
              · exact a h1
              · rw [h1, Bool.true_and, Bool.not_eq_false'] at k42; exact b ⟨h1, k42⟩
            cases k94 : (keyT (y4 P k) == [94])
            · rw [k94] at hb
              simp only [Bool.false_eq_true, if_false] at hb
              have done : ExR P h d (pt b) K R := by rw [← hb]; exact ⟨k, rfl, eK, tK, mK⟩
              refine skip _ (fun s1 => ?_) fun s1 => ?_
              · simp only [ya, zs, xe, yl, zb, zx, zu, yb, zm, yf, zc, y3, vd, zo, zf, ze, zd, List.set_cons_succ, List.set_cons_zero, O_mv, y0, xg, ye, List.map_cons, List.map_nil, zn, yc, zz, za, y6, wd, zci, xy, ok_0 eK, i43, i63, i42, i94, k43, k63, s1, k94, xy, kv]
                exact done
              · simp only [ya, zs, xe, yl, zb, zx, zu, yb, zm, yf, zc, xq, y3, zo, zf, ze, zd, List.set_cons_succ, List.set_cons_zero, O_mv, y0, xg, yg, O_un, ye, List.map_cons, List.map_nil, vt, Bool.not_true, zn, yc, zz, za, y6, wd, zci, xy, ok_0 eK, i43, i63, i42, i94, k43, k63, s1.1, hw1, hbg, s1.2, k94, xy, kv]
                exact done
            · rw [k94] at hb
              simp only [if_true] at hb
              rw [yeo] at hb
              have hlt := znu (by simp) k94
              obtain ⟨K1, q1, e1, m1⟩ := zh7 eK hlt
              obtain ⟨K2, q2, e2, m2⟩ := zub e1 (m := [45]) (by simp)
              have m12 := m1.trans m2
              have tree : ∀ K3, Mv P K2 K3 → TreeP K3 (Iv h.length K3.length) (pt b) n := fun K3 m3 => (tK.keep fun c o hc ho => (m12.trans m3).keep c o ho (by have := hc.1; omega) (by have := hc.1; omega)).weak fun c hc => ⟨hc.1, by have := hc.2; have := (m12.trans m3).le; omega⟩
              have root : ∀ K3 L, Mv P K2 K3 → ∀ j, Heap.read1 (K3 ++ L) ⟨b, j, some 0⟩ = (vh op w n.pl l r n.set)[j]? := fun K3 L m3 j => x5 (y8 _ ((m12.trans m3).keep b _ hbo (by have := hbS.1; omega) (by have := hbS.1; omega)))
              have root0 : ∀ K3, Mv P K2 K3 → ∀ j, Heap.read1 K3 ⟨b, j, some 0⟩ = (vh op w n.pl l r n.set)[j]? := fun K3 m3 j => x5 ((m12.trans m3).keep b _ hbo (by have := hbS.1; omega) (by have := hbS.1; omega))
              cases k45 : (keyT (y4 P (k + 1)) == [45])
              · rw [k45] at e2 hb
                rw [if_neg Bool.false_ne_true] at e2 hb
                have hw := zj3 e2 0 (by omega)
                rw [Nat.add_zero, Int.cast_ofNat_Int] at hw
                have nok := fun L => fd (e2.more L) (fg P (k + 1))
                have fin : BehS P h d R 0 (K2 ++ [.cells (vp (y4 P (k + 1))) 0 false, .cells (vh [94] [] n.pl (pt b) nilP false) 0 false]) (k + 1) (pt (K2.length + 1)) :=
                  .inr ⟨_, _, _, rfl, rfl, hb.symm, fg P (k + 1), e2.more _, (mK.trans m12).more _⟩
                refine skip _ (fun s1 => ?_) fun s1 => ?_
                · simp only [ya, zs, yl, zb, zx, zu, yb, zm, yf, zc, zp, y3, vd, zo, zf, ze, zd, List.set_cons_succ, List.set_cons_zero, O_mv, y0, xg, yg, ye, List.map_cons, List.map_nil, zy, zk, x8, y9, yd, z8, yy, wu, Nat.zero_lt_succ, Nat.reduceLT, List.cons_append, List.nil_append, List.length_cons, List.length_nil, Nat.reduceAdd, Nat.zero_add, zn, yc, zz, za, zi, vq, yq, w9, xb, z7, zl, yu, z6, zq, zj, yi, zw, zr, List.append_assoc, List.length_append, Nat.add_zero, List.getElem?_cons_zero, eq_self, yh, zt, wm, f8, xk, ok_0 eK, i43, i63, i42, i94, k43, k63, s1, k94, eK.r0, q1, q2, hw, nok, root K2 _ (Mv.refl P K2), bd, yh, zt]
                  exact ⟨0, by omega, _, _, _, junk rfl, fin⟩
                · simp only [ya, zs, yl, zb, zx, zu, yb, zm, yf, zc, zp, xq, y3, vd, zo, zf, ze, zd, List.set_cons_succ, List.set_cons_zero, O_mv, y0, xg, yg, O_un, ye, List.map_cons, List.map_nil, zy, zk, x8, y9, yd, z8, yy, wu, Nat.zero_lt_succ, Nat.reduceLT, vt, List.cons_append, List.nil_append, List.length_cons, List.length_nil, Nat.reduceAdd, Nat.zero_add, Bool.not_true, zn, yc, zz, za, zi, vq, yq, w9, xb, z7, zl, yu, z6, zq, zj, yi, zw, zr, List.append_assoc, List.length_append, Nat.add_zero, List.getElem?_cons_zero, eq_self, yh, zt, wm, f8, xk, ok_0 eK, i43, i63, i42, i94, k43, k63, s1.1, hw1, hbg, s1.2, k94, eK.r0, q1, q2, hw, nok, root K2 _ (Mv.refl P K2), bd, yh, zt]
                  exact ⟨0, by omega, _, _, _, junk rfl, fin⟩
              · rw [k45] at e2 hb
                rw [if_pos rfl] at e2 hb
                rw [yec] at hb
                have hw := zj3 e2 0 (by omega)
                rw [Nat.add_zero, Int.cast_ofNat_Int] at hw
                have yok := fun L => ok_0 (e2.more L)
                cases k1 : ((y4 P (k + 1 + 1)).kind == 2 && (y4 P (k + 1 + 1)).n == 1)
                · rw [k1, if_neg Bool.false_ne_true] at hb
                  obtain ⟨K3, q3, e3, m3⟩ := zfp (e2.more [.cells (vp (y4 P (k + 1 + 1))) 0 false])
                  have m3' : Mv P K2 K3 := (Mv.add P K2 _).trans m3
                  have fin : BehS P h d R 0 (K3 ++ [.cells (vh [94] [] n.pl (pt b) nilP false) 0 false]) (k + 1 + 1) (pt K3.length) :=
                    .inr ⟨_, _, _, rfl, rfl, hb.symm, fg P (k + 1 + 1), e3.more _, ((mK.trans m12).trans m3').more _⟩
                  cases kk : ((y4 P (k + 1 + 1)).kind == 2)
                  · refine skip _ (fun s1 => ?_) fun s1 => ?_
                    · simp only [ya, zs, yl, zb, zx, zu, yb, zm, yf, zc, zp, xq, y3, vd, zo, zf, ze, zd, List.set_cons_succ, List.set_cons_zero, O_mv, y0, xg, yx, yg, ye, List.map_cons, List.map_nil, zy, zk, x8, y9, yd, z8, yy, wu, Nat.zero_lt_succ, Nat.reduceLT, ko, List.length_cons, List.length_nil, Nat.reduceAdd, Nat.zero_add, zn, yc, zz, za, zi, vq, yq, w9, xb, z7, zl, yu, z6, zq, zj, yr, yo, yi, zw, zr, Nat.add_zero, List.getElem?_cons_zero, eq_self, yh, zt, wm, f8, xk, v6, ok_0 eK, i43, i63, i42, i94, k43, k63, s1, k94, eK.r0, q1, q2, hw, yok, zke, kk, q3, root0 K3 m3', bd, yh, zt]
                      exact ⟨0, by omega, _, _, _, junk rfl, fin⟩
                    · simp only [ya, zs, yl, zb, zx, zu, yb, zm, yf, zc, zp, xq, y3, vd, zo, zf, ze, zd, List.set_cons_succ, List.set_cons_zero, O_mv, y0, xg, yx, yg, O_un, ye, List.map_cons, List.map_nil, zy, zk, x8, y9, yd, z8, yy, wu, Nat.zero_lt_succ, Nat.reduceLT, ko, vt, List.length_cons, List.length_nil, Nat.reduceAdd, Nat.zero_add, Bool.not_true, zn, yc, zz, za, zi, vq, yq, w9, xb, z7, zl, yu, z6, zq, zj, yr, yo, yi, zw, zr, Nat.add_zero, List.getElem?_cons_zero, eq_self, yh, zt, wm, f8, xk, v6, ok_0 eK, i43, i63, i42, i94, k43, k63, s1.1, hw1, hbg, s1.2, k94, eK.r0, q1, q2, hw, yok, zke, kk, q3, root0 K3 m3', bd, yh, zt]
                      exact ⟨0, by omega, _, _, _, junk rfl, fin⟩
                  · rw [kk, Bool.true_and] at k1
                    refine skip _ (fun s1 => ?_) fun s1 => ?_
                    · simp only [ya, zs, yl, zb, zx, zu, yb, zm, yf, zc, zp, xq, y3, vd, zo, zf, ze, zd, List.set_cons_succ, List.set_cons_zero, O_mv, y0, xg, yx, yg, ye, List.map_cons, List.map_nil, zy, zk, x8, y9, yd, z8, yy, wu, Nat.zero_lt_succ, Nat.reduceLT, ko, List.length_cons, List.length_nil, Nat.reduceAdd, Nat.zero_add, zn, yc, zz, za, zi, vq, yq, w9, xb, z7, zl, yu, z6, zq, zj, yr, yo, yi, zw, zr, Nat.add_zero, List.getElem?_cons_zero, eq_self, yh, zt, wm, f8, xk, v6, zei, ok_0 eK, i43, i63, i42, i94, k43, k63, s1, k94, eK.r0, q1, q2, hw, yok, zke, kk, k1, q3, root0 K3 m3', bd, yh, zt]
                      exact ⟨0, by omega, _, _, _, junk rfl, fin⟩
                    · simp only [ya, zs, yl, zb, zx, zu, yb, zm, yf, zc, zp, xq, y3, zo, zf, ze, zd, List.set_cons_succ, List.set_cons_zero, O_mv, y0, xg, yx, yg, O_un, ye, List.map_cons, List.map_nil, zy, zk, x8, y9, yd, z8, yy, wu, Nat.zero_lt_succ, Nat.reduceLT, ko, vt, List.length_cons, List.length_nil, Nat.reduceAdd, Nat.zero_add, Bool.not_true, zn, yc, zz, za, zi, vq, yq, w9, xb, z7, zl, yu, z6, zq, zj, yr, yo, yi, zw, zr, Nat.add_zero, List.getElem?_cons_zero, eq_self, yh, zt, wm, f8, xk, v6, zei, ok_0 eK, i43, i63, i42, i94, k43, k63, s1.1, hw1, hbg, s1.2, k94, eK.r0, q1, q2, hw, yok, zke, kk, k1, q3, root0 K3 m3', bd, yh, zt]
                      exact ⟨0, by omega, _, _, _, junk rfl, fin⟩
                · rw [k1, if_pos rfl] at hb
                  rw [Bool.and_eq_true] at k1
                  have hlt3 : k + 1 + 1 < P.L.length := by
                    by_cases hk : k + 1 + 1 < P.L.length
                    · exact hk
                    · rw [j1 hk] at k1; cases k1.1
                  obtain ⟨K3, q3, e3, m3⟩ := zh7 (e2.more [.cells (vp (y4 P (k + 1 + 1))) 0 false]) hlt3
                  have m3' : Mv P K2 K3 := (Mv.add P K2 _).trans m3
                  have tn3 := tree K3 m3'
                  have fin : BehS P h d R (P.L.length - (k + 1 + 1 + 1) + 1) (K3 ++ [.cells (vh [94] [] n.pl (pt b) nilP false) 0 false]) (k + 1 + 1 + 1) (pt K3.length) :=
                    .inl ⟨.un .inv n, rfl, e3.more _, yad tn3 (o := .inv) (L := [.cells (vh [94] [] n.pl (pt b) nilP false) 0 false]) (j := 0) rfl (by have := (m12.trans m3').le; omega), ((mK.trans m12).trans m3').more _, hb⟩
                  refine skip _ (fun s1 => ?_) fun s1 => ?_
                  · simp only [ya, zs, yl, zb, zx, zu, yb, zm, yf, zc, zp, xq, y3, vd, zo, zf, ze, zd, List.set_cons_succ, List.set_cons_zero, O_mv, y0, xg, yx, yg, ye, List.map_cons, List.map_nil, zy, zk, x8, y9, yd, z8, yy, wu, Nat.zero_lt_succ, Nat.reduceLT, ko, List.length_cons, List.length_nil, Nat.reduceAdd, Nat.zero_add, zn, yc, zz, za, zi, vq, yq, w9, xb, z7, zl, yu, z6, zq, zj, yr, yo, yi, zw, zr, Nat.add_zero, List.getElem?_cons_zero, eq_self, yh, zt, wm, f8, xk, v6, zei, ok_0 eK, i43, i63, i42, i94, k43, k63, s1, k94, eK.r0, q1, q2, hw, yok, zke, k1.1, k1.2, e2.r1, q3, root0 K3 m3', bd, yh, zt]
                    exact ⟨_, by omega, _, _, _, junk rfl, fin⟩
                  · simp only [ya, zs, yl, zb, zx, zu, yb, zm, yf, zc, zp, xq, y3, zo, zf, ze, zd, List.set_cons_succ, List.set_cons_zero, O_mv, y0, xg, yx, yg, O_un, ye, List.map_cons, List.map_nil, zy, zk, x8, y9, yd, z8, yy, wu, Nat.zero_lt_succ, Nat.reduceLT, ko, vt, List.length_cons, List.length_nil, Nat.reduceAdd, Nat.zero_add, Bool.not_true, zn, yc, zz, za, zi, vq, yq, w9, xb, z7, zl, yu, z6, zq, zj, yr, yo, yi, zw, zr, Nat.add_zero, List.getElem?_cons_zero, eq_self, yh, zt, wm, f8, xk, v6, zei, ok_0 eK, i43, i63, i42, i94, k43, k63, s1.1, hw1, hbg, s1.2, k94, eK.r0, q1, q2, hw, yok, zke, k1.1, k1.2, e2.r1, q3, root0 K3 m3', bd, yh, zt]
                    exact ⟨_, by omega, _, _, _, junk rfl, fin⟩
          · rw [k43, k63, k42] at hb
            simp only [Bool.false_eq_true, if_false, if_true] at hb
            rw [Bool.and_eq_true, Bool.not_eq_true'] at k42
            obtain ⟨K1, q1, ht, rt, m', l', hx⟩ := one .star k42.1 hb.symm
            simp only [ya, zs, yl, zb, zx, yb, zm, yf, zc, zp, xq, y3, zo, zf, ze, zd, List.set_cons_succ, List.set_cons_zero, O_mv, y0, xg, yg, O_un, ye, List.map_cons, List.map_nil, zy, zk, x8, y9, yd, z8, yy, wu, Nat.zero_lt_succ, Nat.reduceLT, vt, List.cons_append, List.nil_append, List.length_cons, List.length_nil, Nat.reduceAdd, Nat.zero_add, Bool.not_false, zn, yc, zz, za, zi, vq, yq, w9, xb, z7, xh, y7, zl, yu, z6, zq, zj, yr, yo, yi, zw, zr, List.append_assoc, List.length_append, Nat.add_zero, List.getElem?_cons_zero, List.getElem?_cons_succ, eq_self, yh, zt, wm, f8, xk, jf, ok_0 eK, i43, i63, i42, k43, k63, k42.1, hw1, hbg, k42.2, eK.r0, q1, rt, bd, ht, op1S, yh, zt]
            exact ⟨m', l', _, _, _, junk rfl, hx⟩
        · rw [k43, k63] at hb
          simp only [Bool.false_eq_true, if_false, if_true] at hb
          obtain ⟨K1, q1, ht, rt, m', l', hx⟩ := one .maybe k63 hb.symm
          simp only [ya, zs, yl, zb, zx, yb, zm, yf, zc, zp, y3, wk, zor, zo, zf, ze, zd, List.set_cons_succ, List.set_cons_zero, O_mv, y0, xg, yg, ye, List.map_cons, List.map_nil, zy, zk, x8, y9, yd, z8, yy, wu, Nat.zero_lt_succ, Nat.reduceLT, List.cons_append, List.nil_append, List.length_cons, List.length_nil, Nat.reduceAdd, Nat.zero_add, zn, yc, zz, za, zi, vq, yq, w9, xb, z7, xh, y7, zl, yu, z6, zq, zj, yr, yo, yi, zw, zr, List.append_assoc, List.length_append, Nat.add_zero, List.getElem?_cons_zero, List.getElem?_cons_succ, eq_self, yh, zt, wm, f8, xk, jf, ok_0 eK, i43, i63, k43, k63, eK.r0, q1, rt, bd, ht, op1S, yh, zt]
          exact ⟨m', l', _, _, _, junk rfl, hx⟩
      · rw [k43] at hb
        simp only [if_true] at hb
        obtain ⟨K1, q1, ht, rt, m', l', hx⟩ := one .plus k43 hb.symm
        simp only [ya, zs, yl, zb, zx, yb, zm, yf, zc, zp, wk, zor, zo, zf, ze, zd, List.set_cons_succ, List.set_cons_zero, O_mv, y0, xg, yg, ye, List.map_cons, List.map_nil, zy, zk, x8, y9, yd, z8, yy, wu, Nat.zero_lt_succ, Nat.reduceLT, List.cons_append, List.nil_append, List.length_cons, List.length_nil, Nat.reduceAdd, Nat.zero_add, zn, yc, zz, za, zi, vq, yq, w9, xb, z7, xh, y7, zl, yu, z6, zq, zj, yr, yo, yi, zw, zr, List.append_assoc, List.length_append, Nat.add_zero, List.getElem?_cons_zero, List.getElem?_cons_succ, eq_self, yh, zt, wm, f8, xk, jf, ok_0 eK, i43, k43, eK.r0, q1, rt, bd, ht, op1S, yh, zt]
        exact ⟨m', l', _, _, _, junk rfl, hx⟩
    · simp only [ya, zs, w7, xe, zb, zu, yb, zm, zc, zo, ze, zd, List.set_cons_succ, List.set_cons_zero, O_mv, ye, List.map_cons, List.map_nil, zn, yc, za, yz, yk, zal, xy, fd eK hc, xy, kv]
      rw [hb]
      exact ⟨hc, ⟨k, eK⟩, mK, _, rfl⟩
  · unfold zif at hR
    cases hp : prim (P.L.drop i) with
    | ok n r =>
      rw [hp] at x0 hR
      obtain ⟨k, rfl, e0, t0, m0⟩ := x0
      refine ⟨h0, k, v0, junk rfl, .inl ⟨n, by simp, e0, t0, m0, ?_⟩⟩
      rw [hR]
      exact zcc _ _ _ _ _ (by simp) (Nat.le_refl _)
    | bad c p =>
      rw [hp] at x0 hR
      obtain ⟨hc, ⟨k, e0⟩, m0, b, rfl⟩ := x0
      exact ⟨h0, k, _, junk rfl, .inr ⟨c, p, b, rfl, rfl, hR, hc, e0, m0⟩⟩
end Go.Proofs.YtljdbheclfaloaaGreatDoor.AM
namespace Go.Proofs.YtljdbheclfaloaaGreatDoor.AM
open Go.RowKit
set_option linter.unusedSimpArgs false
set_option linter.unusedVariables false

theorem ye6 {P : RP} {post : List Tok → PR Ex} {ts : List Tok} {n : Ex} {k : Nat} (h : post ts = .ok n (P.L.drop k)) : zhk post ts = if keyT (y4 P k) == [42] then (match post (P.L.drop (k + 1)) with | .ok m r2 => .ok (.bin false .cross n m) r2 | .bad c a => .bad c a) else .ok n (P.L.drop k) := by
  unfold zhk
  rw [h]
  by_cases hk : k < P.L.length
  · rw [gw hk]
    all_goals
      simp only
      split
      · cases post (P.L.drop (k + 1)) <;> rfl
      · rfl
  · rw [List.drop_eq_nil_of_le (by omega), j1 hk]; rfl
theorem zyy {P : RP} {d : Nat} {post : List Tok → PR Ex} (hF : zc1 P qz d post) (hs : Shr post) : zc1 P jq d (zhk post) := by
  intro h i e
  refine ww zb5 ?_
  obtain ⟨v0, K, q0, x0⟩ := hF h i e
  have lr := e.lr; have lc := e.lc
  cases hp : post (P.L.drop i) with
  | bad c p =>
    rw [hp] at x0
    obtain ⟨hc, ⟨k, e0⟩, m0, b, rfl⟩ := x0
    have hR : zhk post (P.L.drop i) = .bad c p := by unfold zhk; rw [hp]
    rw [hR]
    simp only [k8, ya, zs, xe, yl, zb, zu, yb, zm, yf, zc, vd, zo, zf, ze, zd, List.set_cons_succ, List.set_cons_zero, O_mv, y0, xg, ye, List.map_cons, List.map_nil, List.cons_append, List.nil_append, List.length_cons, List.length_nil, Nat.reduceSub, Nat.zero_add, zn, yc, za, zh, zg, xy, yj, q0, fd e0 hc, xy, kv]
    exact ⟨hc, ⟨k, e0⟩, m0, _, rfl⟩
  | ok n r0 =>
    rw [hp] at x0
    obtain ⟨k, rfl, eK, tK, mK⟩ := x0
    rw [ye6 hp]
    have i42 := is_c eK (m := 42) (by decide)
    obtain ⟨b, op, w, l, r, rfl, hbS, hbo⟩ := tK.root
    cases k42 : (keyT (y4 P k) == [42])
    · simp only [k8, ya, zs, xe, yl, zb, zu, yb, zm, yf, zc, xq, zo, zf, ze, zd, List.set_cons_succ, List.set_cons_zero, O_mv, y0, xg, ye, List.map_cons, List.map_nil, List.cons_append, List.nil_append, List.length_cons, List.length_nil, Nat.reduceSub, Nat.zero_add, zn, yc, za, zh, zg, xy, yj, q0, ok_0 eK, i42, k42, xy, kv]
      rw [if_neg Bool.false_ne_true]
      exact ⟨k, rfl, eK, tK, mK⟩
    · rw [if_pos rfl]
      obtain ⟨K1, q1, e1, m1⟩ := zh7 eK (znu (by simp) k42)
      obtain ⟨v2, K2, q2, x2⟩ := hF K1 (k + 1) e1
      have mx : Mv P K1 K2 := by
        cases hp2 : post (P.L.drop (k + 1)) with
        | ok x r' => rw [hp2] at x2; obtain ⟨_, _, _, _, m⟩ := x2; exact m
        | bad c a => rw [hp2] at x2; exact x2.2.2.1
      obtain ⟨b2, rfl⟩ := x2.ptr
      have m12 := m1.trans mx
      have r1 : ∀ j, Heap.read1 K1 ⟨b, j, some 0⟩ = (vh op w n.pl l r n.set)[j]? := fun j => x5 (m1.keep b _ hbo (by have := hbS.1; omega) (by have := hbS.1; omega))
      have r2 : Heap.read1 K2 ⟨b, 2, some 0⟩ = some (.int .i64 (n.pl : Int)) := x5 (m12.keep b _ hbo (by have := hbS.1; omega) (by have := hbS.1; omega))
      have a2 : zbz K2 (.pointer (some ⟨b, 2, some 0⟩)) (.int .i64 (n.pl : Int)) = some (undef, K2) := b6 r2 rfl
      simp only [k8, ya, zs, xe, zb, zx, yb, zm, yf, zc, zp, xq, zo, zf, ze, zd, List.set_cons_succ, List.set_cons_zero, O_mv, y0, xg, yg, ye, List.map_cons, List.map_nil, zy, zk, x8, y9, yd, z8, yy, wu, Nat.zero_lt_succ, Nat.reduceLT, List.cons_append, List.nil_append, List.length_cons, List.length_nil, Nat.reduceAdd, Nat.reduceSub, Nat.zero_add, zn, yc, za, w9, xb, z7, zq, zj, zh, zg, Nat.add_zero, List.getElem?_cons_zero, xy, eq_self, yh, zt, zdc, yj, wm, f8, q0, ok_0 eK, i42, k42, eK.r0, q1, q2, r1, bd, a2, yh, zt, xy, kv]
      cases hp2 : post (P.L.drop (k + 1)) with
      | ok x r' =>
        rw [hp2] at x2
        obtain ⟨k', rfl, e2, t2, _⟩ := x2
        have l1 := m12.le; have l0 := mK.le; have lm := m1.le; have lx := mx.le
        refine ⟨k', rfl, e2.more _, ?_, (mK.trans m12).more _⟩
        refine ⟨K2.length, Iv h.length K.length, Iv K1.length K2.length, pt b, pt b2, rfl, ⟨by omega, by simp⟩, by simp [vh, op2S], ?_, t2.keep fun c o hc ho => y8 _ ho, ?_, ?_⟩
        · exact (tK.keep fun c o hc ho => m12.keep c o ho (by have := hc.1; omega) (by have := hc.1; omega)).keep fun c o hc ho => y8 _ ho
        · intro z hz
          have := hz.1; have := hz.2
          exact ⟨⟨by omega, by simp; omega⟩, by omega, fun h3 => by have := h3.1; omega⟩
        · intro z hz
          have := hz.1; have := hz.2
          exact ⟨⟨by omega, by simp; omega⟩, by omega⟩
      | bad c a =>
        rw [hp2] at x2
        obtain ⟨hc, ⟨k', e2⟩, _, _⟩ := x2
        exact ⟨hc, ⟨k', e2.more _⟩, (mK.trans m12).more _, _, rfl⟩
theorem Rd.upd {P : RP} {h K : Heap} {i d x a i' d' x' a' b : Nat} (e : Rd P h i d x a) (eK : Rd P K i' d' x' a') (hb : h.length ≤ b) (o : AObj) : Rd P (K.set b o) i' d' x' a' := by
  have lr := e.lr; have lc := e.lc
  refine ⟨?_, ?_, ?_, ?_, eK.le⟩
  · rw [List.getElem?_set_ne (by omega)]; exact eK.hr
  · rw [List.getElem?_set_ne (by omega)]; exact eK.hc
  · exact eK.sw.keep fun c hc o' ho => by rw [List.getElem?_set_ne (by have := e.sw.lt hc; omega)]; exact ho
  · exact eK.sc.keep fun c hc o' ho => by rw [List.getElem?_set_ne (by have := e.sc.lt hc; omega)]; exact ho
theorem Mv.upd {P : RP} {h K : Heap} {b : Nat} (m : Mv P h K) (hb : h.length ≤ b) (o : AObj) : Mv P h (K.set b o) :=
  ⟨fun c o' ho n1 n2 => by rw [List.getElem?_set_ne (by have := (List.getElem?_eq_some_iff.1 ho).1; omega)]; exact m.keep c o' ho n1 n2, by rw [List.length_set]; exact m.le⟩
theorem yfx {P : RP} {t : Tok} {f : List Tok → PR Ex} {ts : List Tok} {n : Ex} {k : Nat} (h : f ts = .ok n (P.L.drop k)) : brkP P.en t ts (some f) = if keyT t == [40] then (if keyT (y4 P k) == [41] then .ok (.par false t.at_ n) (P.L.drop (k + 1)) else .bad (zat P k) (za9 P k)) else (if keyT (y4 P k) == [93] then .ok (.box t.at_ n) (P.L.drop (k + 1)) else .bad (zat P k) (za9 P k)) := by
  have c : ∀ (cl : Bys) (x : Ex), cl ≠ [] → zio P.en cl x (P.L.drop k) = if keyT (y4 P k) == cl then .ok x (P.L.drop (k + 1)) else .bad (zat P k) (za9 P k) := fun cl x hcl => by
    unfold zat za9
    by_cases hk : k < P.L.length
    · rw [gw hk, zio, if_pos hk, if_pos hk]
    · rw [List.drop_eq_nil_of_le (by omega), j1 hk, if_neg hk, if_neg hk, zio, zeu]
      rw [if_neg (by simpa using hcl)]
  rw [brkP, h]
  simp only [brP]
  rw [c _ _ (by simp), c _ _ (by simp)]
theorem yfj {P : RP} {t : Tok} {f : List Tok → PR Ex} {ts : List Tok} {c a : Nat} (h : f ts = .bad c a) : brkP P.en t ts (some f) = .bad c a := by
  rw [brkP, h]; simp only [brP]; split <;> rfl
end Go.Proofs.YtljdbheclfaloaaGreatDoor.AM
namespace Go.Proofs.YtljdbheclfaloaaGreatDoor.AM
open Go.RowKit
set_option linter.unusedSimpArgs false
set_option linter.unusedVariables false

def zk3 (P : RP) (d : Nat) : Option (List Tok → PR Ex) → Prop
  | none => 32 ≤ d
  | some f => d < 32 ∧ zc1 P xw (d + 1) f
theorem ye1 (P : RP) (inner : Option (List Tok → PR Ex)) (k : Nat) : zi8 P.en inner (P.L.drop k) = if keyT (y4 P k) == [40] || keyT (y4 P k) == [91] then brkP P.en (y4 P k) (P.L.drop (k + 1)) inner
    else if (y4 P k).kind == 2 && (y4 P k).n == 0 then .ok (.zero (y4 P k).at_) (P.L.drop (k + 1))
    else if zbc (y4 P k) then .ok (.name false (y4 P k).at_ (y4 P k).text) (P.L.drop (k + 1))
    else .bad (zat P k) (za9 P k) := by
  unfold zat za9
  by_cases hk : k < P.L.length
  · rw [gw hk, zi8, if_pos hk, if_pos hk]
  · rw [List.drop_eq_nil_of_le (by omega), j1 hk, if_neg hk, if_neg hk]; rfl
set_option maxHeartbeats 4000000 in
theorem ygl {P : RP} {d : Nat} {inner : Option (List Tok → PR Ex)} (hin : zk3 P d inner) : zc1 P gi d (zi8 P.en inner) := by
  intro h i e
  refine ww zef ?_
  have lr := e.lr; have lc := e.lc
  have hw := zj3 e 0 (by omega)
  rw [Nat.add_zero, Int.cast_ofNat_Int] at hw
  have i40 := is_c (e.more [.cells (vp (y4 P i)) 0 false, .cells [str [], str [], .int .i64 (atV P i), nilP, nilP, .bool false] 0 false]) (m := 40) (by decide)
  have i91 := is_c (e.more [.cells (vp (y4 P i)) 0 false, .cells [str [], str [], .int .i64 (atV P i), nilP, nilP, .bool false] 0 false]) (m := 91) (by decide)
  have e0 := e.more [.cells (vp (y4 P i)) 0 false, .cells [str [], str [], .int .i64 (atV P i), nilP, nilP, .bool false] 0 false]
  have m0 : Mv P h (h ++ [.cells (vp (y4 P i)) 0 false, .cells [str [], str [], .int .i64 (atV P i), nilP, nilP, .bool false] 0 false]) := Mv.add P h _
  obtain ⟨H0, hH0⟩ : ∃ H0, H0 = h ++ [AObj.cells (vp (y4 P i)) 0 false, .cells [str [], str [], .int .i64 (atV P i), nilP, nilP, .bool false] 0 false] := ⟨_, rfl⟩
  have o1 : H0[h.length]? = some (.cells (vp (y4 P i)) 0 false) := by rw [hH0]; simp
  have o2 : H0[h.length + 1]? = some (.cells [str [], str [], .int .i64 (atV P i), nilP, nilP, .bool false] 0 false) := by rw [hH0]; simp
  have l2 : H0.length = h.length + 2 := by rw [hH0]; simp
  rw [← hH0] at i40 i91 e0 m0
  have t1 : ∀ K, Mv P H0 K → ∀ j, Heap.read1 K ⟨h.length, j, some 0⟩ = (vp (y4 P i))[j]? := fun K m j => x5 (m.keep _ _ o1 (by omega) (by omega))
  have t2 : ∀ K, Mv P H0 K → K[h.length + 1]? = some (.cells [str [], str [], .int .i64 (atV P i), nilP, nilP, .bool false] 0 false) := fun K m => m.keep _ _ o2 (by omega) (by omega)
  rw [ye1]
  have hat : i < P.L.length → atV P i = ((y4 P i).at_ : Int) := fun hk => by unfold atV; rw [if_pos hk]
  cases hbr : (keyT (y4 P i) == [40] || keyT (y4 P i) == [91])
  · rw [if_neg Bool.false_ne_true]
    rw [Bool.or_eq_false_iff] at hbr
    cases h0 : ((y4 P i).kind == 2 && (y4 P i).n == 0)
    · rw [if_neg Bool.false_ne_true]
      have skip : ∀ (Q : Prop), (((y4 P i).kind == 2) = false → Q) → (((y4 P i).kind == 2) = true ∧ ((y4 P i).n == 0) = false → Q) → Q := fun Q a b => by
        cases h1 : ((y4 P i).kind == 2)
        · exact a h1
        · rw [h1, Bool.true_and] at h0; exact b ⟨h1, h0⟩
      cases hn : zbc (y4 P i)
      · rw [if_neg Bool.false_ne_true]
        obtain ⟨K, q, eK, mK⟩ := zfp e0
        have fin : ExR P h d (pt (h.length + 1)) K (.bad (zat P i) (za9 P i)) := ⟨fg P i, ⟨i, eK⟩, m0.trans mK, _, rfl⟩
        have hn2 : (((y4 P i).kind : Int) == 1) = false ∨ (((y4 P i).kind : Int) == 1) = true ∧ kwL.contains (y4 P i).text = true := by
          have k1 : (((y4 P i).kind : Int) == 1) = ((y4 P i).kind == 1) := by rw [Bool.eq_iff_iff]; simp; omega
          rw [k1]; unfold zbc at hn
          cases hk : ((y4 P i).kind == 1)
          · exact .inl rfl
          · rw [hk, Bool.true_and, Bool.not_eq_false'] at hn; exact .inr ⟨rfl, hn⟩
        refine skip _ (fun s1 => ?_) fun s1 => ?_
        · rcases hn2 with hn2 | ⟨hn2, hn3⟩
          · simp only [wy, ya, zs, xe, zb, zu, yb, zm, yf, zc, zp, y3, vd, zo, zf, ze, zd, List.set_cons_succ, List.set_cons_zero, O_mv, y0, xg, yx, yg, O_un, ye, List.map_cons, List.map_nil, zy, zk, x8, y9, yd, z8, yy, wu, Nat.reduceLT, ko, vt, List.cons_append, List.nil_append, List.length_cons, List.length_nil, Nat.reduceAdd, Nat.reduceSub, Nat.zero_add, Bool.not_true, zn, yc, zz, za, zi, yq, w9, xb, z7, zl, yu, z6, zq, zj, yi, zw, zr, zh, zg, List.append_assoc, List.length_append, Nat.add_zero, List.getElem?_cons_zero, xy, eq_self, yh, zt, yj, xk, v6, hw, e.r1, at_c (e.more _), yh, zt, ← hH0, ok_0 e0, i40, i91, hbr.1, hbr.2, t1 H0 (Mv.refl P H0), zke, s1, hn2, q, xy, kv]
            exact fin
          · simp only [wy, ya, zs, xe, zb, zu, yb, zm, yf, zc, zp, xq, y3, vd, zo, zf, ze, zd, List.set_cons_succ, List.set_cons_zero, O_mv, y0, xg, yx, yg, O_un, ye, List.map_cons, List.map_nil, zy, zk, x8, y9, yd, z8, yy, wu, Nat.reduceLT, ko, vt, List.cons_append, List.nil_append, List.length_cons, List.length_nil, Nat.reduceAdd, Nat.reduceSub, Nat.zero_add, Bool.not_true, zn, yc, zz, za, zi, yq, w9, xb, z7, zl, yu, z6, zq, zj, yi, zw, zr, zh, zg, List.append_assoc, List.length_append, Nat.add_zero, List.getElem?_cons_zero, xy, eq_self, yh, zt, yj, xk, v6, jf, hw, e.r1, at_c (e.more _), yh, zt, ← hH0, ok_0 e0, i40, i91, hbr.1, hbr.2, t1 H0 (Mv.refl P H0), zke, s1, hn2, zce, hn3, q, xy, kv]
            exact fin
        · rcases hn2 with hn2 | ⟨hn2, hn3⟩
          · simp only [wy, ya, zs, xe, zb, zu, yb, zm, yf, zc, zp, xq, y3, vd, zo, zf, ze, zd, List.set_cons_succ, List.set_cons_zero, O_mv, y0, xg, yx, yg, O_un, ye, List.map_cons, List.map_nil, zy, zk, x8, y9, yd, z8, yy, wu, Nat.reduceLT, ko, vt, List.cons_append, List.nil_append, List.length_cons, List.length_nil, Nat.reduceAdd, Nat.reduceSub, Nat.zero_add, Bool.not_true, zn, yc, zz, za, zi, yq, w9, xb, z7, zl, yu, z6, zq, zj, yi, zw, zr, zh, zg, List.append_assoc, List.length_append, Nat.add_zero, List.getElem?_cons_zero, xy, eq_self, yh, zt, yj, xk, v6, zei, hw, e.r1, at_c (e.more _), yh, zt, ← hH0, ok_0 e0, i40, i91, hbr.1, hbr.2, t1 H0 (Mv.refl P H0), zke, s1.1, s1.2, hn2, q, xy, kv]
            exact fin
          · simp only [wy, ya, zs, xe, zb, zu, yb, zm, yf, zc, zp, xq, y3, zo, zf, ze, zd, List.set_cons_succ, List.set_cons_zero, O_mv, y0, xg, yx, yg, O_un, ye, List.map_cons, List.map_nil, zy, zk, x8, y9, yd, z8, yy, wu, Nat.reduceLT, ko, vt, List.cons_append, List.nil_append, List.length_cons, List.length_nil, Nat.reduceAdd, Nat.reduceSub, Nat.zero_add, Bool.not_true, zn, yc, zz, za, zi, yq, w9, xb, z7, zl, yu, z6, zq, zj, yi, zw, zr, zh, zg, List.append_assoc, List.length_append, Nat.add_zero, List.getElem?_cons_zero, xy, eq_self, yh, zt, yj, xk, v6, jf, zei, hw, e.r1, at_c (e.more _), yh, zt, ← hH0, ok_0 e0, i40, i91, hbr.1, hbr.2, t1 H0 (Mv.refl P H0), zke, s1.1, s1.2, hn2, zce, hn3, q, xy, kv]
            exact fin
      · rw [if_pos rfl]
        have hlt := zus P i hn
        obtain ⟨K, q, eK, mK⟩ := zh7 e0 hlt
        have hk1 : (((y4 P i).kind : Int) == 1) = true ∧ kwL.contains (y4 P i).text = false := by
          unfold zbc at hn
          rw [Bool.and_eq_true, beq_iff_eq, Bool.not_eq_true'] at hn
          exact ⟨by rw [hn.1]; rfl, hn.2⟩
        have s1 : ((y4 P i).kind == 2) = false := by
          have := hk1.1; rw [beq_iff_eq] at this; rw [beq_eq_false_iff_ne]; omega
        have oK := t2 K mK
        have hlK := (List.getElem?_eq_some_iff.1 oK).1
        have r1 := t1 K mK
        have r2 : ∀ l, Heap.read1 (K.set (h.length + 1) (.cells l 0 false)) ⟨h.length, 1, some 0⟩ = some (str (y4 P i).text) := fun l => by
          rw [yb5 (by simp), r1]; rfl
        have a1 : ∀ l, zbz (K.set (h.length + 1) (.cells l 0 false)) (.pointer (some ⟨h.length, 1, some 0⟩)) (str (y4 P i).text) = some (undef, K.set (h.length + 1) (.cells l 0 false)) := fun l => b6 (r2 l) rfl
        simp only [wy, ya, zs, xe, zb, zx, zu, yb, zm, yf, zc, zp, xq, y3, vd, zo, zf, ze, zd, List.set_cons_succ, List.set_cons_zero, O_mv, y0, xg, yx, yg, O_un, ye, List.map_cons, List.map_nil, zy, zk, x8, y9, yd, z8, yy, wu, Nat.zero_lt_succ, Nat.reduceLT, ko, vt, List.cons_append, List.nil_append, List.length_cons, List.length_nil, Nat.reduceAdd, Nat.reduceSub, Nat.zero_add, Bool.not_true, Bool.not_false, zn, yc, zz, za, zi, yq, w9, xb, z7, zl, xc, yu, z6, zq, zj, yi, zw, zr, zh, zg, List.append_assoc, List.length_append, Nat.add_zero, List.getElem?_cons_zero, xy, eq_self, yh, zt, zdc, yj, wj, xk, v6, jf, hw, e.r1, at_c (e.more _), yh, zt, ← hH0, ok_0 e0, i40, i91, hbr.1, hbr.2, t1 H0 (Mv.refl P H0), zke, s1, hk1.1, zce, hk1.2, e0.r0, q, r1, ph oK, a1, zha hlK, xy, kv]
        refine ⟨i + 1, rfl, e.upd eK (by omega) _, ⟨h.length + 1, rfl, ⟨by omega, by rw [List.length_set]; exact hlK⟩, ?_⟩, (m0.trans mK).upd (by omega) _⟩
        rw [List.getElem?_set_self hlK, hat hlt]; rfl
    · rw [if_pos rfl]
      rw [Bool.and_eq_true] at h0
      have hlt : i < P.L.length := by
        by_cases hk : i < P.L.length
        · exact hk
        · rw [j1 hk] at h0; cases h0.1
      obtain ⟨K, q, eK, mK⟩ := zh7 e0 hlt
      have oK := t2 K mK
      have hlK := (List.getElem?_eq_some_iff.1 oK).1
      simp only [wy, ya, zs, xe, zb, zx, zu, yb, zm, yf, zc, zp, xq, y3, zo, zf, ze, zd, List.set_cons_succ, List.set_cons_zero, O_mv, y0, xg, yx, yg, O_un, ye, List.map_cons, List.map_nil, zy, zk, x8, y9, yd, z8, yy, wu, Nat.zero_lt_succ, Nat.reduceLT, ko, vt, List.cons_append, List.nil_append, List.length_cons, List.length_nil, Nat.reduceAdd, Nat.reduceSub, Nat.zero_add, Bool.not_true, zn, yc, zz, za, zi, yq, w9, xb, z7, zl, xc, yu, z6, zq, zj, yi, zw, zr, zh, zg, List.append_assoc, List.length_append, Nat.add_zero, List.getElem?_cons_zero, xy, eq_self, yh, zt, yj, wj, xk, v6, zei, hw, e.r1, at_c (e.more _), yh, zt, ← hH0, ok_0 e0, i40, i91, hbr.1, hbr.2, t1 H0 (Mv.refl P H0), zke, h0.1, h0.2, e0.r0, q, ph oK, xy, kv]
      refine ⟨i + 1, rfl, e.upd eK (by omega) _, ⟨h.length + 1, rfl, ⟨by omega, by rw [List.length_set]; exact hlK⟩, ?_⟩, (m0.trans mK).upd (by omega) _⟩
      rw [List.getElem?_set_self hlK, hat hlt]; rfl
  · rw [if_pos rfl]
    have brk : ∀ (Q : Prop), ((keyT (y4 P i) == [40]) = true ∧ (y4 P i).text = [40] → Q) → ((keyT (y4 P i) == [40]) = false ∧ (keyT (y4 P i) == [91]) = true ∧ (y4 P i).text = [91] → Q) → Q := fun Q a b => by
      cases h1 : (keyT (y4 P i) == [40])
      · rw [h1, Bool.false_or] at hbr
        exact b ⟨h1, hbr, (zet (by simp) hbr).1⟩
      · exact a ⟨h1, (zet (by simp) h1).1⟩
    have hlt : i < P.L.length := by
      rw [Bool.or_eq_true] at hbr
      rcases hbr with hbr | hbr <;> exact znu (by simp) hbr
    have rt : Heap.read1 H0 ⟨h.length, 3, some 0⟩ = some (.int .i64 ((y4 P i).at_ : Int)) := by rw [t1 H0 (Mv.refl P H0)]; rfl
    cases inner with
    | none =>
      have hd : 32 ≤ d := hin
      have c1 : ((32 : Int) ≤ (d : Int)) = True := by simp; omega
      obtain ⟨K, q, eK, mK⟩ := zjr e0 2 (y4 P i).at_ (by omega)
      simp only [Int.cast_ofNat_Int] at q
      have fin : ExR P h d (pt (h.length + 1)) K (brkP P.en (y4 P i) (P.L.drop (i + 1)) none) := ⟨by omega, ⟨i, eK⟩, m0.trans mK, _, rfl⟩
      refine brk _ (fun b1 => ?_) fun b1 => ?_
      · simp only [wy, ya, zs, xe, zb, zx, zu, yb, zm, yf, zc, zp, wk, zo, zf, ze, zd, List.set_cons_succ, List.set_cons_zero, O_mv, y0, xg, yx, yg, O_un, ye, List.map_cons, List.map_nil, zy, zk, x8, y9, yd, z8, yy, wu, Nat.reduceLT, zcw, vt, List.cons_append, List.nil_append, List.length_cons, List.length_nil, Nat.reduceAdd, Nat.reduceSub, Nat.zero_add, Bool.not_true, zn, yc, zz, za, y6, wd, yq, w9, xb, z7, zl, yu, z6, zq, zj, yi, zw, zr, zh, zg, List.append_assoc, List.length_append, Nat.add_zero, List.getElem?_cons_zero, List.getElem?_cons_succ, xy, eq_self, yh, zt, yj, decide_true, xk, hw, e.r1, at_c (e.more _), yh, zt, ← hH0, ok_0 e0, i40, b1.1, e0.r0, c1, decide_true, rt, q, xy, kv]
        exact fin
      · simp only [wy, ya, zs, xe, zb, zx, zu, yb, zm, yf, zc, zp, y3, zo, zf, ze, zd, List.set_cons_succ, List.set_cons_zero, O_mv, y0, xg, yx, yg, O_un, ye, List.map_cons, List.map_nil, zy, zk, x8, y9, yd, z8, yy, wu, Nat.reduceLT, zcw, vt, List.cons_append, List.nil_append, List.length_cons, List.length_nil, Nat.reduceAdd, Nat.reduceSub, Nat.zero_add, Bool.not_true, zn, yc, zz, za, y6, wd, yq, w9, xb, z7, zl, yu, z6, zq, zj, yi, zw, zr, zh, zg, List.append_assoc, List.length_append, Nat.add_zero, List.getElem?_cons_zero, List.getElem?_cons_succ, xy, eq_self, yh, zt, yj, decide_true, xk, hw, e.r1, at_c (e.more _), yh, zt, ← hH0, ok_0 e0, i40, i91, b1.1, b1.2.1, e0.r0, c1, decide_true, rt, q, xy, kv]
        exact fin
    | some f =>
      obtain ⟨hd, hF⟩ := hin
      have c1 : ((32 : Int) ≤ (d : Int)) = False := by simp; omega
      obtain ⟨K1, q1, e1, m1⟩ := zh7 e0 hlt
      obtain ⟨e1', m1'⟩ := e1.setR (d + 1) 0 0
      have w1 : IntKind.i64.wrap ((d : Int) + 1) = ((d + 1 : Nat) : Int) := xo (by omega)
      have wr1 := e1.wr0 3 (by omega) (.int .i64 ((d + 1 : Nat) : Int))
      simp only [List.set_cons_succ, List.set_cons_zero] at wr1
      obtain ⟨K1', hK1'⟩ : ∃ K, K = K1.set P.r (.cells [pt P.c, P.ws, .int .i64 (P.en : Int), .int .i64 ((d + 1 : Nat) : Int), .int .i64 ((0 : Nat) : Int), .int .i64 ((0 : Nat) : Int)] 0 false) := ⟨_, rfl⟩
      rw [← hK1'] at e1' m1' wr1
      obtain ⟨v, K2, q2, x2⟩ := hF K1' (i + 1) e1'
      obtain ⟨b2, rfl⟩ := x2.ptr
      have m2 : Mv P K1' K2 := by
        cases hp : f (P.L.drop (i + 1)) with
        | ok x r' => rw [hp] at x2; obtain ⟨_, _, _, _, m⟩ := x2; exact m
        | bad c a => rw [hp] at x2; exact x2.2.2.1
      have m02 : Mv P H0 K2 := (m1.trans m1').trans m2
      have w2 : IntKind.i64.wrap (((d + 1 : Nat) : Int) - 1) = (d : Int) := by rw [zf9 (by unfold W; omega)]; omega
      cases hp : f (P.L.drop (i + 1)) with
      | bad c a =>
        rw [hp] at x2
        obtain ⟨hc, ⟨k, e2⟩, _, _⟩ := x2
        rw [yfj hp]
        obtain ⟨e2', m2'⟩ := e2.setR d c a
        have wr2 := e2.wr0 3 (by omega) (.int .i64 (d : Int))
        simp only [List.set_cons_succ, List.set_cons_zero] at wr2
        obtain ⟨K2', hK2'⟩ : ∃ K, K = K2.set P.r (.cells [pt P.c, P.ws, .int .i64 (P.en : Int), .int .i64 (d : Int), .int .i64 (c : Int), .int .i64 (a : Int)] 0 false) := ⟨_, rfl⟩
        rw [← hK2'] at e2' m2' wr2
        have m02' := m02.trans m2'
        have oK := t2 K2' m02'
        have hlK := (List.getElem?_eq_some_iff.1 oK).1
        have r1 := t1 K2' m02'
        refine brk _ (fun b1 => ?_) fun b1 => ?_
        · simp only [wy, ya, zs, xe, yl, zb, zx, zu, yb, zm, yf, zc, zp, wk, zo, zf, ze, zd, List.set_cons_succ, List.set_cons_zero, O_mv, y0, xg, yx, yg, O_un, ye, List.map_cons, List.map_nil, zy, zk, x8, y9, yd, z8, yy, wu, Nat.zero_lt_succ, Nat.reduceLT, vw, ztl, zcw, vt, List.cons_append, List.nil_append, List.length_cons, List.length_nil, Nat.reduceAdd, Nat.reduceSub, Nat.zero_add, Bool.not_true, zn, yc, zz, za, y6, wd, yq, w9, xb, z7, zl, xc, xx, qo, yu, z6, zq, zj, yi, zw, zr, zh, zg, List.append_assoc, List.length_append, Nat.add_zero, List.getElem?_cons_zero, List.getElem?_cons_succ, xy, beq_self_eq_true, eq_self, yh, zt, yj, wj, va, decide_false, xk, jf, hw, e.r1, at_c (e.more _), yh, zt, ← hH0, ok_0 e0, i40, b1.1, b1.2, e0.r0, c1, decide_false, q1, e1.r0, w1, wr1, q2, e2.r0, w2, wr2, r1, ztm e2' hc, ph oK, zha hlK, xy, kv]
          exact ⟨hc, ⟨k, e.upd e2' (by omega) _⟩, (m0.trans m02').upd (by omega) _, _, rfl⟩
        · simp only [wy, ya, zs, xe, yl, zb, zx, zu, yb, zm, yf, zc, zp, y3, zo, zf, ze, zd, List.set_cons_succ, List.set_cons_zero, O_mv, y0, xg, yx, yg, O_un, ye, List.map_cons, List.map_nil, zy, zk, x8, y9, yd, z8, yy, wu, Nat.zero_lt_succ, Nat.reduceLT, vw, ztl, zcw, vt, List.cons_append, List.nil_append, List.length_cons, List.length_nil, Nat.reduceAdd, Nat.reduceSub, Nat.zero_add, Bool.not_true, zn, yc, zz, za, zi, yq, w9, xb, z7, zl, xc, xx, qo, yu, z6, zq, zj, yi, zw, zr, zh, zg, List.append_assoc, List.length_append, Nat.add_zero, List.getElem?_cons_zero, List.getElem?_cons_succ, xy, eq_self, yh, zt, yj, wj, va, decide_false, xk, jf, hw, e.r1, at_c (e.more _), yh, zt, ← hH0, ok_0 e0, i40, i91, b1.1, b1.2.1, b1.2.2, e0.r0, c1, decide_false, q1, e1.r0, w1, wr1, q2, e2.r0, w2, wr2, r1, ztm e2' hc, ph oK, zha hlK, show (([91] : Bys) == [40]) = false from rfl, xy, kv]
          exact ⟨hc, ⟨k, e.upd e2' (by omega) _⟩, (m0.trans m02').upd (by omega) _, _, rfl⟩
      | ok n r0 =>
        rw [hp] at x2
        obtain ⟨k, rfl, e2, tn, _⟩ := x2
        rw [yfx hp]
        obtain ⟨e2', m2'⟩ := e2.setR d 0 0
        have wr2 := e2.wr0 3 (by omega) (.int .i64 (d : Int))
        simp only [List.set_cons_succ, List.set_cons_zero] at wr2
        obtain ⟨K2', hK2'⟩ : ∃ K, K = K2.set P.r (.cells [pt P.c, P.ws, .int .i64 (P.en : Int), .int .i64 (d : Int), .int .i64 ((0 : Nat) : Int), .int .i64 ((0 : Nat) : Int)] 0 false) := ⟨_, rfl⟩
        rw [← hK2'] at e2' m2' wr2
        have m02' := m02.trans m2'
        have lK1 : K1'.length = K1.length := by rw [hK1', List.length_set]
        have lK2 : K2'.length = K2.length := by rw [hK2', List.length_set]
        have la := m1.le; have lb := m2.le
        -- the tree behind all
        have tree : ∀ K3 (l : List Value), Mv P K2' K3 → TreeP (K3.set (h.length + 1) (.cells l 0 false)) (Iv K1'.length K2.length) (pt b2) n := fun K3 l m3 =>
          tn.keep fun c o hc ho => by
            have := hc.1
            rw [List.getElem?_set_ne (by omega)]
            exact (m2'.trans m3).keep c o ho (by omega) (by omega)
        have ends : ∀ K3 (l : List Value) (cl : Bys), Mv P K2' K3 → ∀ y, Iv K1'.length K2.length y → Iv h.length (K3.set (h.length + 1) (.cells l 0 false)).length y ∧ y ≠ h.length + 1 := fun K3 l cl m3 y hy => by
          have := hy.1; have := hy.2; have := m3.le
          exact ⟨⟨by omega, by rw [List.length_set]; omega⟩, by omega⟩
        refine brk _ (fun b1 => ?_) fun b1 => ?_
        · rw [if_pos b1.1]
          obtain ⟨K3, q3, e3, m3⟩ := zub e2' (m := [41]) (by simp)
          have m03 := m02'.trans m3
          have oK := t2 K3 m03
          have hlK := (List.getElem?_eq_some_iff.1 oK).1
          simp only [wy, ya, zs, xe, yl, zb, zx, zu, yb, zm, yf, zc, zp, wk, zo, zf, ze, zd, List.set_cons_succ, List.set_cons_zero, O_mv, y0, xg, yx, yg, O_un, ye, List.map_cons, List.map_nil, zy, zk, x8, y9, yd, z8, yy, wu, Nat.zero_lt_succ, Nat.reduceLT, vw, ztl, zcw, vt, List.cons_append, List.nil_append, List.length_cons, List.length_nil, Nat.reduceAdd, Nat.reduceSub, Nat.zero_add, Bool.not_true, zn, yc, zz, za, y6, wd, yq, w9, xb, z7, zl, xc, xx, qo, yu, z6, zq, zj, yi, zw, zr, zh, zg, List.append_assoc, List.length_append, Nat.add_zero, List.getElem?_cons_zero, List.getElem?_cons_succ, xy, beq_self_eq_true, eq_self, yh, zt, yj, wj, va, decide_false, xk, jf, hw, e.r1, at_c (e.more _), yh, zt, ← hH0, ok_0 e0, i40, b1.1, b1.2, e0.r0, c1, decide_false, q1, e1.r0, w1, wr1, q2, e2.r0, w2, wr2, t1 K2' m02', q3, ph oK, zha hlK, xy, kv]
          cases k41 : (keyT (y4 P k) == [41])
          · rw [k41, if_neg Bool.false_ne_true] at e3
            rw [if_neg Bool.false_ne_true]
            exact ⟨fg P k, ⟨k, e.upd e3 (by omega) _⟩, (m0.trans m03).upd (by omega) _, _, rfl⟩
          · rw [k41, if_pos rfl] at e3
            rw [if_pos rfl]
            refine ⟨k + 1, rfl, e.upd e3 (by omega) _, ⟨h.length + 1, _, pt b2, rfl, ⟨by omega, by rw [List.length_set]; exact hlK⟩, ?_, tree K3 _ m3, ends K3 _ [41] m3⟩, (m0.trans m03).upd (by omega) _⟩
            rw [List.getElem?_set_self hlK, hat hlt]; rfl
        · rw [if_neg (by rw [b1.1]; exact Bool.false_ne_true)]
          obtain ⟨K3, q3, e3, m3⟩ := zub e2' (m := [93]) (by simp)
          have m03 := m02'.trans m3
          have oK := t2 K3 m03
          have hlK := (List.getElem?_eq_some_iff.1 oK).1
          simp only [wy, ya, zs, xe, yl, zb, zx, zu, yb, zm, yf, zc, zp, y3, zo, zf, ze, zd, List.set_cons_succ, List.set_cons_zero, O_mv, y0, xg, yx, yg, O_un, ye, List.map_cons, List.map_nil, zy, zk, x8, y9, yd, z8, yy, wu, Nat.zero_lt_succ, Nat.reduceLT, vw, ztl, zcw, vt, List.cons_append, List.nil_append, List.length_cons, List.length_nil, Nat.reduceAdd, Nat.reduceSub, Nat.zero_add, Bool.not_true, zn, yc, zz, za, zi, yq, w9, xb, z7, zl, xc, xx, qo, yu, z6, zq, zj, yi, zw, zr, zh, zg, List.append_assoc, List.length_append, Nat.add_zero, List.getElem?_cons_zero, List.getElem?_cons_succ, xy, eq_self, yh, zt, yj, wj, va, decide_false, xk, jf, hw, e.r1, at_c (e.more _), yh, zt, ← hH0, ok_0 e0, i40, i91, b1.1, b1.2.1, b1.2.2, e0.r0, c1, decide_false, q1, e1.r0, w1, wr1, q2, e2.r0, w2, wr2, t1 K2' m02', q3, ph oK, zha hlK, show (([91] : Bys) == [40]) = false from rfl, xy, kv]
          cases k41 : (keyT (y4 P k) == [93])
          · rw [k41, if_neg Bool.false_ne_true] at e3
            rw [if_neg Bool.false_ne_true]
            exact ⟨fg P k, ⟨k, e.upd e3 (by omega) _⟩, (m0.trans m03).upd (by omega) _, _, rfl⟩
          · rw [k41, if_pos rfl] at e3
            rw [if_pos rfl]
            refine ⟨k + 1, rfl, e.upd e3 (by omega) _, ⟨h.length + 1, _, pt b2, rfl, ⟨by omega, by rw [List.length_set]; exact hlK⟩, ?_, tree K3 _ m3, ends K3 _ [41] m3⟩, (m0.trans m03).upd (by omega) _⟩
            rw [List.getElem?_set_self hlK, hat hlt]; rfl
end Go.Proofs.YtljdbheclfaloaaGreatDoor.AM
namespace Go.Proofs.YtljdbheclfaloaaGreatDoor.AM
open Go.RowKit
set_option linter.unusedSimpArgs false
set_option linter.unusedVariables false

theorem zo0 {t : Tok} (ht : zpx t) {m : UInt8} (hm : (letV (m.toNat : Int) || (m.toNat : Int) == 95) = false) : ((t.kind : Int) == 3 && t.text == [m]) = (keyT t == [m]) := by
  have hk : ((t.kind : Int) == 3) = decide (t.kind = 3) := by rw [Bool.eq_iff_iff]; simp; omega
  rw [hk]
  unfold keyT
  rcases ht with ⟨h1, c, l, h2, h3⟩ | h1 | ⟨h1, c, l, h2, h3⟩
  · have hne : ((c :: l : Bys) == [m]) = false := by
      rw [beq_eq_false_iff_ne]; intro he; cases he; rw [hm] at h3; cases h3
    rw [h2]
    simp only [h1, hne, Nat.reduceEqDiff, decide_false, Bool.false_and, if_false]
  · simp [h1]
  · simp [h1]
theorem ybo : MarksOk [[124]] orM := ⟨rfl, by decide, fun t ht => by
  have h := zo0 ht (m := 124) (by decide)
  refine ⟨?_, fun o ho => ?_⟩
  · rw [show ([[124]] : List Bys).contains t.text = (t.text == [124]) by rw [Bool.eq_iff_iff]; simp, h]; unfold orM; split <;> simp_all
  · unfold orM at ho
    split at ho
    · rename_i hk; cases ho; exact (zet (by simp) hk).1.symm
    · cases ho⟩
theorem zzg : MarksOk [[59]] seqM := ⟨rfl, by decide, fun t ht => by
  have h := zo0 ht (m := 59) (by decide)
  refine ⟨?_, fun o ho => ?_⟩
  · rw [show ([[59]] : List Bys).contains t.text = (t.text == [59]) by rw [Bool.eq_iff_iff]; simp, h]; unfold seqM; split <;> simp_all
  · unfold seqM at ho
    split at ho
    · rename_i hk; cases ho; exact (zet (by simp) hk).1.symm
    · cases ho⟩
theorem zwu : MarksOk [[38], [92]] andM := ⟨rfl, by decide, fun t ht => by
  have h := zo0 ht (m := 38) (by decide)
  have h' := zo0 ht (m := 92) (by decide)
  refine ⟨?_, fun o ho => ?_⟩
  · rw [show ([[38], [92]] : List Bys).contains t.text = (t.text == [38] || t.text == [92]) by rw [Bool.eq_iff_iff]; simp, Bool.and_or_distrib_left, h, h']
    unfold andM
    cases (keyT t == [38]) <;> cases (keyT t == [92]) <;> rfl
  · unfold andM at ho
    split at ho
    · rename_i hk; cases ho; exact (zet (by simp) hk).1.symm
    · split at ho
      · rename_i hk; cases ho; exact (zet (by simp) hk).1.symm
      · cases ho⟩
theorem zva {P : RP} {h : Heap} {i d x a : Nat} (e : Rd P h i d x a) (n c : Nat) : blk (.slice (some ⟨h.length, 0, some 0⟩) n c) ≠ some P.r ∧ blk (.slice (some ⟨h.length, 0, some 0⟩) n c) ≠ some P.c := by
  have := e.lr; have := e.lc
  exact ⟨fun h => by simp [blk] at h; omega, fun h => by simp [blk] at h; omega⟩
section
variable {P : RP} {d : Nat} {f : List Tok → PR Ex}
theorem yey (hF : zc1 P jq d f) (hs : Shr f) : zc1 P j7 d (pv f seqM) := by
  intro h i e
  refine ww zdo ?_
  have hm : Sl (h ++ [.cells [str [59]] 0 false]) (.slice (some ⟨h.length, 0, some 0⟩) 1 1) 1 ([[59]].map zfb) := zl5 h [59]
  obtain ⟨v, h', q, x⟩ := zl7 hF hs zzg (e.more [.cells [str [59]] 0 false]) hm (zva e 1 1).1 (zva e 1 1).2
  obtain ⟨b, rfl⟩ := x.ptr
  simp only [za0, ya, xe, zb, yb, zm, zc, zo, zf, ze, zd, List.set_cons_succ, List.set_cons_zero, O_mv, ye, List.map_cons, List.map_nil, w5, wo, yd, z8, xd, xi, yy, Nat.lt_add_one, List.cons_append, List.nil_append, List.length_cons, List.length_nil, Nat.reduceSub, Nat.zero_add, zn, yc, za, slc, zh, zg, List.append_nil, xy, yj, wm, gy, q, xy, kv]
  cases hp : pv f seqM (P.L.drop i) with
  | ok n r =>
    rw [hp] at x
    obtain ⟨k, hk, e2, t2, m2⟩ := x
    exact ⟨k, hk, e2, t2.weak fun c hc => ⟨by have := hc.1; simp at this; omega, hc.2⟩, (Mv.add P h _).trans m2⟩
  | bad c a =>
    rw [hp] at x
    exact ⟨x.1, x.2.1, (Mv.add P h _).trans x.2.2.1, _, rfl⟩
theorem yeu (hF : zc1 P j7 d f) (hs : Shr f) : zc1 P kb d (pv f andM) := by
  intro h i e
  refine ww zdh ?_
  have hm : Sl (h ++ [.cells [str [38], str [92]] 0 false]) (.slice (some ⟨h.length, 0, some 0⟩) 2 1) 1 ([[38], [92]].map zfb) := Sl.last h (by rfl) (by rfl) (by simp [zfb]) 0 false
  obtain ⟨v, h', q, x⟩ := zl7 hF hs zwu (e.more [.cells [str [38], str [92]] 0 false]) hm (zva e 2 1).1 (zva e 2 1).2
  obtain ⟨b, rfl⟩ := x.ptr
  simp only [za4, ya, xe, zb, yb, zm, zc, zo, zf, ze, zd, List.set_cons_succ, List.set_cons_zero, O_mv, ye, List.map_cons, List.map_nil, w5, wo, yd, z8, xd, xi, yy, Nat.lt_add_one, Nat.zero_lt_succ, List.cons_append, List.nil_append, List.length_cons, List.length_nil, Nat.reduceAdd, Nat.reduceSub, Nat.zero_add, zn, yc, za, slc, zh, zg, List.append_nil, xy, yj, wm, gy, q, xy, kv]
  cases hp : pv f andM (P.L.drop i) with
  | ok n r =>
    rw [hp] at x
    obtain ⟨k, hk, e2, t2, m2⟩ := x
    exact ⟨k, hk, e2, t2.weak fun c hc => ⟨by have := hc.1; simp at this; omega, hc.2⟩, (Mv.add P h _).trans m2⟩
  | bad c a =>
    rw [hp] at x
    exact ⟨x.1, x.2.1, (Mv.add P h _).trans x.2.2.1, _, rfl⟩
theorem zqg (hF : zc1 P kb d f) (hs : Shr f) : zc1 P xw d (pv f orM) := by
  intro h i e
  refine ww zay ?_
  have hm : Sl (h ++ [.cells [str [124]] 0 false]) (.slice (some ⟨h.length, 0, some 0⟩) 1 1) 1 ([[124]].map zfb) := zl5 h [124]
  obtain ⟨v, h', q, x⟩ := zl7 hF hs ybo (e.more [.cells [str [124]] 0 false]) hm (zva e 1 1).1 (zva e 1 1).2
  obtain ⟨b, rfl⟩ := x.ptr
  simp only [f6, ya, xe, zb, yb, zm, zc, zo, zf, ze, zd, List.set_cons_succ, List.set_cons_zero, O_mv, ye, List.map_cons, List.map_nil, w5, wo, yd, z8, xd, xi, yy, Nat.lt_add_one, List.cons_append, List.nil_append, List.length_cons, List.length_nil, Nat.reduceSub, Nat.zero_add, zn, yc, za, slc, zh, zg, List.append_nil, xy, yj, wm, gy, q, xy, kv]
  cases hp : pv f orM (P.L.drop i) with
  | ok n r =>
    rw [hp] at x
    obtain ⟨k, hk, e2, t2, m2⟩ := x
    exact ⟨k, hk, e2, t2.weak fun c hc => ⟨by have := hc.1; simp at this; omega, hc.2⟩, (Mv.add P h _).trans m2⟩
  | bad c a =>
    rw [hp] at x
    exact ⟨x.1, x.2.1, (Mv.add P h _).trans x.2.2.1, _, rfl⟩
end
theorem zws {P : RP} {d : Nat} {inner : Option (List Tok → PR Ex)} (hin : zk3 P d inner) (hs : ∀ f, inner = some f → Shr f) : zc1 P xw d (zpr P.en (zi8 P.en inner)) := by
  have s0 := b7 (e := P.en) hs
  have p0 := ygl hin
  have s1 := zbq (e := P.en) s0
  have p1 := ybc p0 s0
  have s2 := zbt s1
  have p2 := zyy p1 s1
  have s3 := fh (m := seqM) s2
  have p3 := yey p2 s2
  have s4 := fh (m := andM) s3
  have p4 := yeu p3 s3
  exact zqg p4 s4
theorem yas (P : RP) : ∀ k d, d + k = 32 → zc1 P xw d (zbi P.en k)
  | 0, d, h => zws (show zk3 P d none from by unfold zk3; omega) fun f hf => by cases hf
  | k + 1, d, h => zws (show zk3 P d (some (zbi P.en k)) from ⟨by omega, yas P k (d + 1) (by omega)⟩) fun f hf => by cases hf; exact za6 _ _

/-! Behind a failure. -/
section
variable {P : RP}
theorem yem : zsv P gi := by
  intro h i d c p e hc
  have : ∃ v h', DF FF gi [pt P.r] h = some (v, h') ∧ ∃ b, (v = pt b ∧ Rd P h' i d c p ∧ Mv P h h') := by
    refine ww zef ?_
    have hw := zj3 e 0 (by omega)
    rw [Nat.add_zero, Int.cast_ofNat_Int] at hw
    simp only [wy, ya, zs, xe, yl, zb, zx, yb, zm, zc, zp, zo, zf, ze, zd, List.set_cons_succ, List.set_cons_zero, O_mv, yg, O_un, ye, List.map_cons, List.map_nil, zy, zk, x8, y9, yd, z8, yy, wu, Nat.reduceLT, vt, List.cons_append, List.nil_append, List.length_cons, List.length_nil, Nat.reduceAdd, Nat.reduceSub, Nat.zero_add, Bool.not_false, zn, yc, zz, za, zi, yq, w9, xb, z7, zl, yu, z6, zq, zj, yi, zw, zr, zh, zg, List.append_assoc, List.length_append, Nat.add_zero, List.getElem?_cons_zero, xy, eq_self, yh, zt, yj, xk, hw, e.r1, at_c (e.more _), yh, zt, fd (e.more _) hc, xy, kv]
    exact ⟨_, rfl, e.more _, Mv.add P h _⟩
  obtain ⟨v, h', q, b, rfl, r⟩ := this
  exact ⟨b, h', q, r⟩
theorem zyl : zsv P qz := by
  intro h i d c p e hc
  have : ∃ v h', DF FF qz [pt P.r] h = some (v, h') ∧ ∃ b, (v = pt b ∧ Rd P h' i d c p ∧ Mv P h h') := by
    refine ww zcy ?_
    obtain ⟨b, K, q, eK, mK⟩ := yem h i d c p e hc
    simp only [zaf, ya, zs, w7, xe, zb, zu, yb, zm, zc, zo, zf, ze, zd, List.set_cons_succ, List.set_cons_zero, O_mv, ye, List.map_cons, List.map_nil, List.cons_append, List.nil_append, List.length_cons, List.length_nil, Nat.reduceSub, Nat.zero_add, zn, yc, zz, za, yz, yk, zh, zg, xy, yj, q, zfa, fd eK hc, xy, kv]
    exact ⟨_, rfl, eK, mK⟩
  obtain ⟨v, h', q, b, rfl, r⟩ := this
  exact ⟨b, h', q, r⟩
theorem zwc : zsv P jq := by
  intro h i d c p e hc
  have : ∃ v h', DF FF jq [pt P.r] h = some (v, h') ∧ ∃ b, (v = pt b ∧ Rd P h' i d c p ∧ Mv P h h') := by
    refine ww zb5 ?_
    obtain ⟨b, K, q, eK, mK⟩ := zyl h i d c p e hc
    simp only [k8, ya, zs, xe, yl, zb, zu, yb, zm, yf, zc, vd, zo, zf, ze, zd, List.set_cons_succ, List.set_cons_zero, O_mv, y0, xg, ye, List.map_cons, List.map_nil, List.cons_append, List.nil_append, List.length_cons, List.length_nil, Nat.reduceSub, Nat.zero_add, zn, yc, za, zh, zg, xy, yj, q, fd eK hc, xy, kv]
    exact ⟨_, rfl, eK, mK⟩
  obtain ⟨v, h', q, b, rfl, r⟩ := this
  exact ⟨b, h', q, r⟩
theorem zit {F : FuncId} (hF : zsv P F) {h : Heap} {i d c p : Nat} (e : Rd P h i d c p) (hc : c ≠ 0) (ms : Value) : ∃ b h', DF FF qr [pt P.r, .func (.func F) [pt P.r].toArray [].toArray, ms] h = some (pt b, h') ∧ Rd P h' i d c p ∧ Mv P h h' := by
  have : ∃ v h', DF FF qr [pt P.r, .func (.func F) [pt P.r].toArray [].toArray, ms] h = some (v, h') ∧ ∃ b, (v = pt b ∧ Rd P h' i d c p ∧ Mv P h h') := by
    refine ww zb4 ?_
    obtain ⟨b, K, q, eK, mK⟩ := hF h i d c p e hc
    simp only [pm, ya, zs, w7, xe, zb, zu, yb, zm, yf, zc, vd, zo, zf, ze, zd, List.set_cons_succ, List.set_cons_zero, O_mv, y0, xg, ye, List.map_cons, List.map_nil, List.cons_append, List.nil_append, List.length_cons, List.length_nil, Nat.reduceAdd, Nat.reduceSub, Nat.zero_add, zn, yc, zz, za, yz, yk, zh, zg, List.append_nil, xy, yj, bp, je, q, zfa, fd eK hc, xy, kv]
    exact ⟨_, rfl, eK, mK⟩
  obtain ⟨v, h', q, b, rfl, r⟩ := this
  exact ⟨b, h', q, r⟩
theorem ycg : zsv P j7 := by
  intro h i d c p e hc
  have : ∃ v h', DF FF j7 [pt P.r] h = some (v, h') ∧ ∃ b, (v = pt b ∧ Rd P h' i d c p ∧ Mv P h h') := by
    refine ww zdo ?_
    obtain ⟨b, K, q, eK, mK⟩ := zit zwc (e.more [.cells [str [59]] 0 false]) hc (.slice (some ⟨h.length, 0, some 0⟩) 1 1)
    simp only [za0, ya, xe, zb, yb, zm, zc, zo, zf, ze, zd, List.set_cons_succ, List.set_cons_zero, O_mv, ye, List.map_cons, List.map_nil, w5, wo, yd, z8, xd, xi, yy, Nat.lt_add_one, List.cons_append, List.nil_append, List.length_cons, List.length_nil, Nat.reduceSub, Nat.zero_add, zn, yc, za, slc, zh, zg, List.append_nil, xy, yj, wm, gy, q, xy, kv]
    exact ⟨_, rfl, eK, (Mv.add P h _).trans mK⟩
  obtain ⟨v, h', q, b, rfl, r⟩ := this
  exact ⟨b, h', q, r⟩
theorem ycp : zsv P kb := by
  intro h i d c p e hc
  have : ∃ v h', DF FF kb [pt P.r] h = some (v, h') ∧ ∃ b, (v = pt b ∧ Rd P h' i d c p ∧ Mv P h h') := by
    refine ww zdh ?_
    obtain ⟨b, K, q, eK, mK⟩ := zit ycg (e.more [.cells [str [38], str [92]] 0 false]) hc (.slice (some ⟨h.length, 0, some 0⟩) 2 1)
    simp only [za4, ya, xe, zb, yb, zm, zc, zo, zf, ze, zd, List.set_cons_succ, List.set_cons_zero, O_mv, ye, List.map_cons, List.map_nil, w5, wo, yd, z8, xd, xi, yy, Nat.lt_add_one, Nat.zero_lt_succ, List.cons_append, List.nil_append, List.length_cons, List.length_nil, Nat.reduceAdd, Nat.reduceSub, Nat.zero_add, zn, yc, za, slc, zh, zg, List.append_nil, xy, yj, wm, gy, q, xy, kv]
    exact ⟨_, rfl, eK, (Mv.add P h _).trans mK⟩
  obtain ⟨v, h', q, b, rfl, r⟩ := this
  exact ⟨b, h', q, r⟩
theorem zir : zsv P xw := by
  intro h i d c p e hc
  have : ∃ v h', DF FF xw [pt P.r] h = some (v, h') ∧ ∃ b, (v = pt b ∧ Rd P h' i d c p ∧ Mv P h h') := by
    refine ww zay ?_
    obtain ⟨b, K, q, eK, mK⟩ := zit ycp (e.more [.cells [str [124]] 0 false]) hc (.slice (some ⟨h.length, 0, some 0⟩) 1 1)
    simp only [f6, ya, xe, zb, yb, zm, zc, zo, zf, ze, zd, List.set_cons_succ, List.set_cons_zero, O_mv, ye, List.map_cons, List.map_nil, w5, wo, yd, z8, xd, xi, yy, Nat.lt_add_one, List.cons_append, List.nil_append, List.length_cons, List.length_nil, Nat.reduceSub, Nat.zero_add, zn, yc, za, slc, zh, zg, List.append_nil, xy, yj, wm, gy, q, xy, kv]
    exact ⟨_, rfl, eK, (Mv.add P h _).trans mK⟩
  obtain ⟨v, h', q, b, rfl, r⟩ := this
  exact ⟨b, h', q, r⟩
end
end Go.Proofs.YtljdbheclfaloaaGreatDoor.AM
namespace Go.Proofs.YtljdbheclfaloaaGreatDoor.AM
open Go.RowKit
set_option linter.unusedSimpArgs false
set_option linter.unusedVariables false

theorem zh5 {e : Nat} {ts r : List Tok} {g : Gv} (h : zj7 e ts = .ok g r) : r.length < ts.length := by
  unfold zj7 at h
  cases ts with
  | nil => cases h
  | cons t ts =>
    rw [zli] at h
    split at h
    · cases h
    · rename_i w r0 hn
      have h0 : r0.length < (t :: ts).length := by
        split at hn
        · cases hn; simp
        · cases hn
      split at h
      · cases h
      · rename_i u r1 he
        have h1 : r1.length < r0.length := by
          cases r0 with
          | nil => cases he
          | cons t0 r0 =>
            rw [eatP] at he
            split at he
            · cases he; simp
            · cases he
        split at h
        · cases h
        · rename_i x r2 hx
          have h2 := za6 e 32 _ _ _ hx
          cases h
          omega
theorem zhc (e : Nat) : ∀ k k' ts, ts.length < k → ts.length < k' → ft e k ts = ft e k' ts
  | 0, k', ts, h, h' => by omega
  | k + 1, 0, ts, h, h' => by omega
  | k + 1, k' + 1, ts, h, h' => by
    rw [ft, ft]
    cases hg : zj7 e ts with
    | bad c a => rfl
    | ok g r =>
      have := zh5 hg
      cases r with
      | nil => rfl
      | cons t r =>
        simp only [List.length_cons] at this
        simp only
        rw [zhc e k k' r (by omega) (by omega)]
theorem ycw {P : RP} {k k' : Nat} {g : Gv} (h : zj7 P.en (P.L.drop k) = .ok g (P.L.drop k')) : ft P.en (P.L.length + 1) (P.L.drop k) = if keyT (y4 P k') == wAnd then (match ft P.en (P.L.length + 1) (P.L.drop (k' + 1)) with
    | .bad c a => .bad c a
    | .ok gs r2 => .ok (g :: gs) r2) else .ok [g] (P.L.drop k') := by
  have hs := zh5 h
  simp only [List.length_drop] at hs
  rw [ft, h]
  by_cases hk : k' < P.L.length
  · rw [gw hk]
    simp only
    rw [zhc P.en P.L.length (P.L.length + 1) (P.L.drop (k' + 1)) (by simp; omega) (by simp; omega)]
    rfl
  · rw [List.drop_eq_nil_of_le (by omega), j1 hk, zeu]; rfl
theorem zy4 {e : Nat} {ts : List Tok} {c a n : Nat} (h : zj7 e ts = .bad c a) : ft e (n + 1) ts = .bad c a := by rw [ft, h]
theorem zux (P : RP) (k : Nat) : zli P.en (P.L.drop k) = if zbc (y4 P k) then .ok ((y4 P k).text, (y4 P k).at_) (P.L.drop (k + 1)) else .bad (zat P k) (za9 P k) := by
  unfold zat za9
  by_cases hk : k < P.L.length
  · rw [gw hk, zli, if_pos hk, if_pos hk]
  · rw [List.drop_eq_nil_of_le (by omega), j1 hk, if_neg hk, if_neg hk]; rfl
theorem ygm (P : RP) (k : Nat) {m : Bys} (hm : m ≠ []) : eatP P.en m (P.L.drop k) = if keyT (y4 P k) == m then .ok () (P.L.drop (k + 1)) else .bad (zat P k) (za9 P k) := by
  unfold zat za9
  by_cases hk : k < P.L.length
  · rw [gw hk, eatP, if_pos hk, if_pos hk]
  · rw [List.drop_eq_nil_of_le (by omega), j1 hk, if_neg hk, if_neg hk, zeu, if_neg (by simpa using hm)]; rfl

/-! Statements in memory. -/
def v7 (g : Gv) (v : Value) : List Value := [str g.name, .int .i64 (g.at_ : Int), v]
def GsP (h : Heap) : (Nat → Prop) → List Value → List Gv → Prop
  | _, [], [] => True
  | S, v :: vs, g :: gs => ∃ S1 S2, TreeP h S1 v g.e ∧ GsP h S2 vs gs ∧ (∀ z, S1 z → S z ∧ ¬ S2 z) ∧ ∀ z, S2 z → S z
  | _, _, _ => False
theorem GsP.keep {h h' : Heap} : ∀ {S : Nat → Prop} {vs : List Value} {gs : List Gv}, GsP h S vs gs → (∀ b o, S b → h[b]? = some o → h'[b]? = some o) → GsP h' S vs gs
  | S, [], [], e, k => trivial
  | S, v :: vs, g :: gs, e, k => by
    obtain ⟨S1, S2, t, r, h1, h2⟩ := e
    exact ⟨S1, S2, t.keep fun b o hb => k b o (h1 b hb).1, r.keep fun b o hb => k b o (h2 b hb), h1, h2⟩
  | S, [], _ :: _, e, k => e.elim
  | S, _ :: _, [], e, k => e.elim
theorem GsP.len {h : Heap} : ∀ {S : Nat → Prop} {vs : List Value} {gs : List Gv}, GsP h S vs gs → vs.length = gs.length
  | S, [], [], e => rfl
  | S, v :: vs, g :: gs, e => by obtain ⟨S1, S2, t, r, h1, h2⟩ := e; simp [r.len]
  | S, [], _ :: _, e => e.elim
  | S, _ :: _, [], e => e.elim
theorem GsP.snoc {h : Heap} {T : Nat → Prop} {v : Value} {g : Gv} (t : TreeP h T v g.e) : ∀ {S : Nat → Prop} {vs : List Value} {gs : List Gv}, GsP h S vs gs → (∀ z, S z → ¬ T z) → GsP h (fun z => S z ∨ T z) (vs ++ [v]) (gs ++ [g])
  | S, [], [], e, hd => ⟨T, fun _ => False, t, trivial, fun z hz => ⟨.inr hz, id⟩, fun z hz => hz.elim⟩
  | S, w :: vs, f :: gs, e, hd => by
    obtain ⟨S1, S2, t1, r, h1, h2⟩ := e
    exact ⟨S1, fun z => S2 z ∨ T z, t1, r.snoc t fun z hz => hd z (h2 z hz), fun z hz => ⟨.inl (h1 z hz).1, fun h => h.elim (h1 z hz).2 (hd z (h1 z hz).1)⟩, fun z hz => hz.imp (h2 z) id⟩
  | S, [], _ :: _, e, hd => e.elim
  | S, _ :: _, [], e, hd => e.elim
def ckS : Ck → Bys
  | .acyclic => zab
  | .irr => wIrr
  | .empty => zd9
def kwOf (rc : Bool) : Bys := if rc then wRec else wLet
def StP (h : Heap) (T : Nat → Prop) (row : List Value) : Stm → Prop
  | .lets rc gs => ∃ s vs S, row = [str (kwOf rc), s, nilP, str []] ∧ Sl h s 3 (List.zipWith v7 gs vs) ∧ GsP h S vs gs ∧ (∀ z, S z → T z ∧ blk s ≠ some z) ∧ ∀ b, blk s = some b → T b
  | .chk k x as_ => ∃ v, row = [str (ckS k), nils, v, str as_] ∧ TreeP h T v x
theorem StP.keep {h h' : Heap} {T : Nat → Prop} {row : List Value} {s : Stm} (e : StP h T row s) (k : ∀ b o, T b → h[b]? = some o → h'[b]? = some o) : StP h' T row s := by
  cases s with
  | lets rc gs =>
    obtain ⟨s, vs, S, hr, hs, hg, h1, h2⟩ := e
    exact ⟨s, vs, S, hr, hs.keep fun b hb o ho => k b o (h2 b hb) ho, hg.keep fun b o hb => k b o (h1 b hb).1, h1, h2⟩
  | chk c x as_ =>
    obtain ⟨v, hr, ht⟩ := e
    exact ⟨v, hr, ht.keep k⟩
theorem StP.len {h : Heap} {T : Nat → Prop} {row : List Value} {s : Stm} (e : StP h T row s) : row.length = 4 := by
  cases s with
  | lets rc gs => obtain ⟨s, vs, S, hr, _⟩ := e; rw [hr]; rfl
  | chk c x as_ => obtain ⟨v, hr, ht⟩ := e; rw [hr]; rfl
def StsP (h : Heap) : (Nat → Prop) → List (List Value) → List Stm → Prop
  | _, [], [] => True
  | T, row :: rows, s :: l => ∃ T1 T2, StP h T1 row s ∧ StsP h T2 rows l ∧ (∀ z, T1 z → T z ∧ ¬ T2 z) ∧ ∀ z, T2 z → T z
  | _, _, _ => False
theorem StsP.keep {h h' : Heap} : ∀ {T : Nat → Prop} {rows : List (List Value)} {l : List Stm}, StsP h T rows l → (∀ b o, T b → h[b]? = some o → h'[b]? = some o) → StsP h' T rows l
  | T, [], [], e, k => trivial
  | T, v :: vs, g :: gs, e, k => by
    obtain ⟨S1, S2, t, r, h1, h2⟩ := e
    exact ⟨S1, S2, t.keep fun b o hb => k b o (h1 b hb).1, r.keep fun b o hb => k b o (h2 b hb), h1, h2⟩
  | T, [], _ :: _, e, k => e.elim
  | T, _ :: _, [], e, k => e.elim
theorem StsP.len {h : Heap} : ∀ {T : Nat → Prop} {rows : List (List Value)} {l : List Stm}, StsP h T rows l → rows.length = l.length ∧ ∀ r ∈ rows, r.length = 4
  | T, [], [], e => ⟨rfl, by simp⟩
  | T, v :: vs, g :: gs, e => by
    obtain ⟨S1, S2, t, r, h1, h2⟩ := e
    refine ⟨by simp [r.len.1], fun x hx => ?_⟩
    rcases List.mem_cons.1 hx with rfl | hx
    · exact t.len
    · exact r.len.2 x hx
  | T, [], _ :: _, e => e.elim
  | T, _ :: _, [], e => e.elim
theorem StsP.snoc {h : Heap} {U : Nat → Prop} {row : List Value} {s : Stm} (t : StP h U row s) : ∀ {T : Nat → Prop} {rows : List (List Value)} {l : List Stm}, StsP h T rows l → (∀ z, T z → ¬ U z) → StsP h (fun z => T z ∨ U z) (rows ++ [row]) (l ++ [s])
  | T, [], [], e, hd => ⟨U, fun _ => False, t, trivial, fun z hz => ⟨.inr hz, id⟩, fun z hz => hz.elim⟩
  | T, w :: vs, f :: gs, e, hd => by
    obtain ⟨S1, S2, t1, r, h1, h2⟩ := e
    exact ⟨S1, fun z => S2 z ∨ U z, t1, r.snoc t fun z hz => hd z (h2 z hz), fun z hz => ⟨.inl (h1 z hz).1, fun h => h.elim (h1 z hz).2 (hd z (h1 z hz).1)⟩, fun z hz => hz.imp (h2 z) id⟩
  | T, [], _ :: _, e, hd => e.elim
  | T, _ :: _, [], e, hd => e.elim
theorem GsP.get {h : Heap} : ∀ {S : Nat → Prop} {vs : List Value} {gs : List Gv}, GsP h S vs gs → ∀ (k : Nat) (g : Gv), gs[k]? = some g → ∃ v S', vs[k]? = some v ∧ TreeP h S' v g.e ∧ ∀ z, S' z → S z
  | S, [], [], e, k, g, hk => by simp at hk
  | S, v :: vs, g' :: gs, e, 0, g, hk => by
    obtain ⟨S1, S2, t, r, h1, h2⟩ := e
    cases hk
    exact ⟨v, S1, rfl, t, fun z hz => (h1 z hz).1⟩
  | S, v :: vs, g' :: gs, e, k + 1, g, hk => by
    obtain ⟨S1, S2, t, r, h1, h2⟩ := e
    obtain ⟨w, S', a, b, c⟩ := r.get k g (by simpa using hk)
    exact ⟨w, S', by simpa using a, b, fun z hz => h2 z (c z hz)⟩
  | S, [], _ :: _, e, k, g, hk => e.elim
  | S, _ :: _, [], e, k, g, hk => e.elim
end Go.Proofs.YtljdbheclfaloaaGreatDoor.AM
namespace Go.Proofs.YtljdbheclfaloaaGreatDoor.AM
open Go.RowKit
set_option linter.unusedSimpArgs false
set_option linter.unusedVariables false

def z4 : List Value := [str [], .slice none 0 0, nilP, str []]
theorem zi5 (z0 z1 z2 a b c : Value) : wz [z0, z1, z2] [(0, 3, agg [a, b, c])] = some [a, b, c] := by
  rw [wz, yh]; simp [splice, wz]
theorem Own.slice {h H : Heap} {s : Value} {c : Nat} {rows : List (List Value)} (e : Own h H s c rows) : ∃ a n c', s = .slice a n c' := by
  rcases e with ⟨⟨rfl, _⟩ | ⟨b, ver, _, rfl, _⟩, _⟩
  · exact ⟨_, _, _, rfl⟩
  · exact ⟨_, _, _, rfl⟩
theorem ybv {P : RP} {h K3 : Heap} {i k d x a g : Nat} {rows : List (List Value)} {s x0 : Value} {w : Bys} {p : Int} {kw : Bys} (v : Value) (e : Rd P h i 0 0 0) (eK : Rd P K3 k d x a) (hg : K3[g]? = some (.cells [str w, .int .i64 p, x0] 0 false)) (hgl : h.length + 2 ≤ g) (hgs : blk s ≠ some g) (h0 : K3[h.length]? = some (.cells z4 0 false))
    (h1 : K3[h.length + 1]? = some (.cells [str kw, s, nilP, str []] 0 false)) (own : Own [] K3 s 3 rows) (hb : ∀ b, blk s = some b → h.length + 2 ≤ b) (room : rows.length ≤ 10000) (mK : Mv P h K3) :
    ∃ a' n' c' K4, j2 (K3.set g (.cells [str w, .int .i64 p, v] 0 false) ++ [.cells [str w, .int .i64 p, v] 0 false]) 3 32 s (zck (K3.set g (.cells [str w, .int .i64 p, v] 0 false) ++ [.cells [str w, .int .i64 p, v] 0 false]) 3 (.slice (some ⟨K3.length, 0, some 0⟩) 1 3)) = some (.slice a' n' c', K4) ∧
      K4[h.length + 1]? = some (.cells [str kw, s, nilP, str []] 0 false) ∧
      Rd P (K4.set (h.length + 1) (.cells [str kw, .slice a' n' c', nilP, str []] 0 false)) k d x a ∧ (K4.set (h.length + 1) (.cells [str kw, .slice a' n' c', nilP, str []] 0 false))[h.length]? = some (.cells z4 0 false) ∧
      (K4.set (h.length + 1) (.cells [str kw, .slice a' n' c', nilP, str []] 0 false))[h.length + 1]? = some (.cells [str kw, .slice a' n' c', nilP, str []] 0 false) ∧
      Own [] (K4.set (h.length + 1) (.cells [str kw, .slice a' n' c', nilP, str []] 0 false)) (.slice a' n' c') 3 (rows ++ [[str w, .int .i64 p, v]]) ∧ (∀ b, blk (.slice a' n' c') = some b → h.length + 2 ≤ b) ∧
      (∀ z, z < K3.length → blk s ≠ some z → blk (.slice a' n' c') ≠ some z) ∧ Mv P h (K4.set (h.length + 1) (.cells [str kw, .slice a' n' c', nilP, str []] 0 false)) ∧
      (∀ b o, K3[b]? = some o → b ≠ g → b ≠ h.length + 1 → blk s ≠ some b → (K4.set (h.length + 1) (.cells [str kw, .slice a' n' c', nilP, str []] 0 false))[b]? = some o) ∧ K3.length ≤ (K4.set (h.length + 1) (.cells [str kw, .slice a' n' c', nilP, str []] 0 false)).length := by
  have lr := e.lr; have lc := e.lc
  have own2 : Own [] (K3.set g (.cells [str w, .int .i64 p, v] 0 false)) s 3 rows := own.keep fun b hb' o ho => by rw [List.getElem?_set_ne (by rintro rfl; exact hgs hb')]; exact ho
  obtain ⟨s', K4, q1, q2, q3, q4, q5, q6⟩ := own2.push (⟨_, rfl⟩ : Pre [] _) (row := [str w, .int .i64 p, v]) (bytes := 32) rfl (by unfold j3; omega)
  rw [List.length_set] at q1 q4 q6
  have hbn : ∀ b, b < h.length + 2 → blk s ≠ some b := fun b hlt hbb => by have := hb b hbb; omega
  have old : ∀ b o, K3[b]? = some o → b ≠ g → blk s ≠ some b → K4[b]? = some o := fun b o ho n1 n2 => q5 b o (by rw [List.getElem?_set_ne (Ne.symm n1)]; exact ho) n2
  obtain ⟨a', n', c', rfl⟩ := q2.slice
  have f1 : K4[h.length + 1]? = some (.cells [str kw, s, nilP, str []] 0 false) := old _ _ h1 (by omega) (hbn _ (by omega))
  have hlt : h.length + 1 < K4.length := (List.getElem?_eq_some_iff.1 f1).1
  have blk' : ∀ b, blk (.slice a' n' c') = some b → h.length + 2 ≤ b := fun b hb' => by
    rcases q6 with q6 | ⟨j, q6, q7⟩
    · rw [q6] at hb'; exact hb b hb'
    · rw [q6] at hb'; cases hb'
      have := (List.getElem?_eq_some_iff.1 hg).1; omega
  have keep : ∀ b o, K3[b]? = some o → b ≠ g → b ≠ h.length + 1 → blk s ≠ some b → (K4.set (h.length + 1) (.cells [str kw, .slice a' n' c', nilP, str []] 0 false))[b]? = some o := fun b o ho n1 n2 n3 => by
    rw [List.getElem?_set_ne (Ne.symm n2)]; exact old b o ho n1 n3
  have m2 : Mv P K3 K4 → True := fun _ => trivial
  have mE : Mv P h (K4.set (h.length + 1) (.cells [str kw, .slice a' n' c', nilP, str []] 0 false)) := ⟨fun b o ho n1 n2 => by
    have hl := (List.getElem?_eq_some_iff.1 ho).1
    exact keep b o (mK.keep b o ho n1 n2) (by omega) (by omega) (hbn b (by omega)), by rw [List.length_set]; have := mK.le; omega⟩
  refine ⟨a', n', c', K4, q1, f1, ?_, ?_, ?_, ?_, blk', ?_, mE, keep, by rw [List.length_set]; omega⟩
  · exact ⟨keep _ _ eK.hr (by omega) (by omega) (hbn _ (by omega)), keep _ _ eK.hc (by omega) (by omega) (hbn _ (by omega)),
      eK.sw.keep fun b hb' o ho => by have := e.sw.lt hb'; exact keep b o ho (by omega) (by omega) (hbn b (by omega)), eK.sc.keep fun b hb' o ho => by have := e.sc.lt hb'; exact keep b o ho (by omega) (by omega) (hbn b (by omega)), eK.le⟩
  · exact keep _ _ h0 (by omega) (by omega) (hbn _ (by omega))
  · rw [List.getElem?_set_self hlt]
  · exact q2.keep fun b hb' o ho => by rw [List.getElem?_set_ne (by have := blk' b hb'; omega)]; exact ho
  · intro z hz hzs hb'
    rcases q6 with q6 | ⟨j, q6, q7⟩
    · rw [q6] at hb'; exact hzs hb'
    · rw [q6] at hb'; cases hb'; omega
def StR (P : RP) (h : Heap) (v : Value) (h' : Heap) : PR Stm → Prop
  | .ok s r => ∃ row k, v = agg row ∧ r = P.L.drop k ∧ Rd P h' k 0 0 0 ∧ StP h' (Iv h.length h'.length) row s ∧ Mv P h h'
  | .bad c p => ∃ row, v = agg row ∧ row.length = 4 ∧ c ≠ 0 ∧ (∃ k, Rd P h' k 0 c p) ∧ Mv P h h'
def LetS (P : RP) (h : Heap) (R : PR Stm) (rc : Bool) (m : Nat) (K : Heap) (k : Nat) : Prop :=
  ∃ s vs S acc, m = P.L.length - k + 1 ∧ Rd P K k 0 0 0 ∧ K[h.length]? = some (.cells z4 0 false) ∧ K[h.length + 1]? = some (.cells [str (kwOf rc), s, nilP, str []] 0 false) ∧ Own [] K s 3 (List.zipWith v7 acc vs) ∧ GsP K S vs acc ∧
    (∀ z, S z → h.length + 2 ≤ z ∧ z < K.length ∧ blk s ≠ some z) ∧ (∀ b, blk s = some b → h.length + 2 ≤ b) ∧ Mv P h K ∧ acc.length ≤ k ∧
    (match ft P.en (P.L.length + 1) (P.L.drop k) with | .bad c a => R = .bad c a | .ok gs r => R = .ok (.lets rc (acc ++ gs)) r)
def LetI (P : RP) (h : Heap) (R : PR Stm) (rc : Bool) (i : Nat) (m : Nat) (st : St) : Prop := ∃ K k, i < k ∧ (∃ j : Nat → Value, st = ⟨[pt P.r, j 1, pt h.length, pt (h.length + 1), j 4, j 5, j 6, j 7, j 8, j 9, j 10, j 11, j 12, j 13, j 14, j 15, j 16, j 17, j 18, j 19, j 20, j 21, j 22, j 23, j 24, j 25, j 26, j 27, j 28, j 29, j 30, j 31, j 32, j 33, j 34, j 35, j 36, j 37, j 38, j 39, j 40, j 41, j 42, j 43, j 44, j 45, j 46, j 47, j 48, j 49, j 50, j 51, j 52, j 53, j 54, j 55, j 56, j 57, j 58, j 59, j 60, j 61, j 62, j 63, j 64, j 65, j 66, j 67, j 68, j 69, j 70, j 71, j 72, j 73, j 74, j 75, j 76, j 77, j 78, j 79, j 80, j 81, j 82, j 83, j 84, j 85, j 86, j 87, j 88, j 89, j 90, j 91, j 92, j 93, j 94, j 95, j 96, j 97], K⟩) ∧ LetS P h R rc m K k
theorem zey {vs : List Value} {gs : List Gv} (h : vs.length = gs.length) : (List.zipWith v7 gs vs).length = gs.length := by simp [h]
theorem yaw {vs : List Value} {gs : List Gv} (h : vs.length = gs.length) (g : Gv) (v : Value) : List.zipWith v7 (gs ++ [g]) (vs ++ [v]) = List.zipWith v7 gs vs ++ [v7 g v] := by
  rw [List.zipWith_append h.symm]; rfl
theorem yez (P : RP) (k : Nat) : zj7 P.en (P.L.drop k) = if zbc (y4 P k) then (if keyT (y4 P (k + 1)) == [61] then (match zbi P.en 32 (P.L.drop (k + 1 + 1)) with
      | .bad c a => .bad c a
      | .ok x r2 => .ok ⟨(y4 P k).text, (y4 P k).at_, x⟩ r2) else .bad (zat P (k + 1)) (za9 P (k + 1))) else .bad (zat P k) (za9 P k) := by
  unfold zj7
  rw [zux]
  cases zbc (y4 P k)
  · rfl
  · simp only [if_true]
    rw [ygm P (k + 1) (m := [61]) (by simp)]
    cases (keyT (y4 P (k + 1)) == [61])
    · rfl
    · simp only [if_true]; rfl
end Go.Proofs.YtljdbheclfaloaaGreatDoor.AM
namespace Go.Proofs.YtljdbheclfaloaaGreatDoor.AM
open Go.RowKit
set_option linter.unusedSimpArgs false
set_option linter.unusedVariables false

theorem zpy {P : RP} {h K : Heap} {i k : Nat} {rc : Bool} {R : PR Stm} (e : Rd P h i 0 0 0) {s : Value} {vs : List Value} {S : Nat → Prop} {acc : List Gv} (eK : Rd P K k 0 0 0) (hz0 : K[h.length]? = some (.cells z4 0 false)) (hz1 : K[h.length + 1]? = some (.cells [str (kwOf rc), s, nilP, str []] 0 false)) (own : Own [] K s 3 (List.zipWith v7 acc vs)) (gs : GsP K S vs acc)
    (hS : ∀ z, S z → h.length + 2 ≤ z ∧ z < K.length ∧ blk s ≠ some z) (hb : ∀ b, blk s = some b → h.length + 2 ≤ b) (mK : Mv P h K) (hacc : acc.length ≤ k)
    (hg : (match ft P.en (P.L.length + 1) (P.L.drop k) with | .bad c a => R = .bad c a | .ok gs r => R = .ok (.lets rc (acc ++ gs)) r)) :
    ∃ w p K1 K2 K3 b a' n' c' K4 k3 x a, DF FF ji [pt P.r] (K ++ [.cells [str [], .int .i64 0, nilP] 0 false]) = some (tup [str w, .int .i64 p], K1) ∧ K1[K.length]? = some (.cells [str [], .int .i64 0, nilP] 0 false) ∧
      DF FF vy [pt P.r, str [61]] (K1.set K.length (.cells [str w, .int .i64 p, nilP] 0 false)) = some (tup [], K2) ∧ DF FF xw [pt P.r] K2 = some (pt b, K3) ∧ K3[K.length]? = some (.cells [str w, .int .i64 p, nilP] 0 false) ∧
      K3[h.length + 1]? = some (.cells [str (kwOf rc), s, nilP, str []] 0 false) ∧
      j2 (K3.set K.length (.cells [str w, .int .i64 p, pt b] 0 false) ++ [.cells [str w, .int .i64 p, pt b] 0 false]) 3 32 s (zck (K3.set K.length (.cells [str w, .int .i64 p, pt b] 0 false) ++ [.cells [str w, .int .i64 p, pt b] 0 false]) 3 (.slice (some ⟨K3.length, 0, some 0⟩) 1 3)) = some (.slice a' n' c', K4) ∧
      K4[h.length + 1]? = some (.cells [str (kwOf rc), s, nilP, str []] 0 false) ∧
      Rd P (K4.set (h.length + 1) (.cells [str (kwOf rc), .slice a' n' c', nilP, str []] 0 false)) k3 0 x a ∧ Mv P h (K4.set (h.length + 1) (.cells [str (kwOf rc), .slice a' n' c', nilP, str []] 0 false)) ∧
      (K4.set (h.length + 1) (.cells [str (kwOf rc), .slice a' n' c', nilP, str []] 0 false))[h.length]? = some (.cells z4 0 false) ∧
      (K4.set (h.length + 1) (.cells [str (kwOf rc), .slice a' n' c', nilP, str []] 0 false))[h.length + 1]? = some (.cells [str (kwOf rc), .slice a' n' c', nilP, str []] 0 false) ∧
      ((x ≠ 0 ∧ R = .bad x a) ∨ (x = 0 ∧ a = 0 ∧ k < k3 ∧ ∃ S' g, Own [] (K4.set (h.length + 1) (.cells [str (kwOf rc), .slice a' n' c', nilP, str []] 0 false)) (.slice a' n' c') 3 (List.zipWith v7 (acc ++ [g]) (vs ++ [pt b])) ∧
        GsP (K4.set (h.length + 1) (.cells [str (kwOf rc), .slice a' n' c', nilP, str []] 0 false)) S' (vs ++ [pt b]) (acc ++ [g]) ∧ (∀ z, S' z → h.length + 2 ≤ z ∧ z < (K4.set (h.length + 1) (.cells [str (kwOf rc), .slice a' n' c', nilP, str []] 0 false)).length ∧ blk (.slice a' n' c') ≠ some z) ∧ (∀ b, blk (.slice a' n' c') = some b → h.length + 2 ≤ b) ∧
        (if keyT (y4 P k3) == wAnd then (match ft P.en (P.L.length + 1) (P.L.drop (k3 + 1)) with | .bad c a => R = .bad c a | .ok gs r => R = .ok (.lets rc ((acc ++ [g]) ++ gs)) r) else R = .ok (.lets rc (acc ++ [g])) (P.L.drop k3)))) := by
  have lr := e.lr; have lc := e.lc; have hL := P.len; have lK := mK.le
  have lz := (List.getElem?_eq_some_iff.1 hz1).1
  obtain ⟨w, p, K1, q1, x1, m1⟩ := yak (eK.more [.cells [str [], .int .i64 0, nilP] 0 false])
  have o1 : K1[K.length]? = some (.cells [str [], .int .i64 0, nilP] 0 false) := m1.keep _ _ (by simp) (by omega) (by omega)
  have l1 := (List.getElem?_eq_some_iff.1 o1).1
  have mK1 : Mv P K K1 := (Mv.add P K _).trans m1
  have mE1 : Mv P K (K1.set K.length (.cells [str w, .int .i64 p, nilP] 0 false)) := mK1.upd (Nat.le_refl _) _
  have oE1 : (K1.set K.length (.cells [str w, .int .i64 p, nilP] 0 false))[K.length]? = some (.cells [str w, .int .i64 p, nilP] 0 false) := by rw [List.getElem?_set_self l1]
  have hgs : blk s ≠ some K.length := fun hh => by have := (own.lt hh).2; omega
  have rl : (List.zipWith v7 acc vs).length ≤ 10000 := by rw [zey gs.len]; have := eK.le; omega
  -- whatever is read behind the name
  have all : ∀ (K3 : Heap) (b k3 x a : Nat), Rd P K3 k3 0 x a → Mv P (K1.set K.length (.cells [str w, .int .i64 p, nilP] 0 false)) K3 → _ := fun K3 b k3 x a e3 m3 =>
    ybv (kw := kwOf rc) (s := s) (rows := List.zipWith v7 acc vs) (pt b) e e3 (m3.keep _ _ oE1 (by omega) (by omega)) (by omega) hgs ((mE1.trans m3).keep _ _ hz0 (by omega) (by omega)) ((mE1.trans m3).keep _ _ hz1 (by omega) (by omega)) (own.keep fun c hc o ho => (mE1.trans m3).keep c o ho (by have := hb c hc; omega) (by have := hb c hc; omega)) hb rl (mK.trans (mE1.trans m3))
  have o3 : ∀ K3, Mv P (K1.set K.length (.cells [str w, .int .i64 p, nilP] 0 false)) K3 → K3[K.length]? = some (.cells [str w, .int .i64 p, nilP] 0 false) ∧ K3[h.length + 1]? = some (.cells [str (kwOf rc), s, nilP, str []] 0 false) := fun K3 m3 => ⟨m3.keep _ _ oE1 (by omega) (by omega), (mE1.trans m3).keep _ _ hz1 (by omega) (by omega)⟩
  have hgv := yez P k
  have bad : ∀ c a, zj7 P.en (P.L.drop k) = .bad c a → R = .bad c a := fun c a hq => by rw [zy4 hq] at hg; exact hg
  cases hn : zbc (y4 P k)
  · rw [hn, if_neg Bool.false_ne_true] at x1 hgv
    have eE1 : Rd P (K1.set K.length (.cells [str w, .int .i64 p, nilP] 0 false)) k 0 (zat P k) (za9 P k) := eK.upd x1 (Nat.le_refl _) _
    obtain ⟨b, K3, q3, e3, m3⟩ := zir _ _ _ _ _ eE1 (fg P k)
    obtain ⟨a', n', c', K4, r1, r2, r3, r4, r5, r6, r7, r8, r9, r10, r11⟩ := all K3 b k _ _ e3 m3
    exact ⟨w, p, K1, _, K3, b, a', n', c', K4, k, _, _, q1, o1, ztm eE1 (fg P k) [61], q3, (o3 K3 m3).1, (o3 K3 m3).2, r1, r2, r3, r9, r4, r5, .inl ⟨fg P k, bad _ _ hgv⟩⟩
  · rw [hn, if_pos rfl] at x1 hgv
    obtain ⟨rfl, rfl, x1⟩ := x1
    have eE1 := eK.upd x1 (Nat.le_refl _) (.cells [str (y4 P k).text, .int .i64 ((y4 P k).at_ : Int), nilP] 0 false)
    obtain ⟨K2, q2, x2, m2⟩ := zub eE1 (m := [61]) (by simp)
    cases k61 : (keyT (y4 P (k + 1)) == [61])
    · rw [k61, if_neg Bool.false_ne_true] at x2 hgv
      obtain ⟨b, K3, q3, e3, m3⟩ := zir _ _ _ _ _ x2 (fg P (k + 1))
      obtain ⟨a', n', c', K4, r1, r2, r3, r4, r5, r6, r7, r8, r9, r10, r11⟩ := all K3 b _ _ _ e3 (m2.trans m3)
      exact ⟨_, _, K1, K2, K3, b, a', n', c', K4, _, _, _, q1, o1, q2, q3, (o3 K3 (m2.trans m3)).1, (o3 K3 (m2.trans m3)).2, r1, r2, r3, r9, r4, r5, .inl ⟨fg P (k + 1), bad _ _ hgv⟩⟩
    · rw [k61, if_pos rfl] at x2 hgv
      obtain ⟨v, K3, q3, x3⟩ := yas P 32 0 rfl K2 (k + 1 + 1) x2
      obtain ⟨b, rfl⟩ := x3.ptr
      cases hx : zbi P.en 32 (P.L.drop (k + 1 + 1)) with
      | bad c a =>
        rw [hx] at x3 hgv
        obtain ⟨hc, ⟨k3, e3⟩, m3, _⟩ := x3
        obtain ⟨a', n', c', K4, r1, r2, r3, r4, r5, r6, r7, r8, r9, r10, r11⟩ := all K3 b _ _ _ e3 (m2.trans m3)
        exact ⟨_, _, K1, K2, K3, b, a', n', c', K4, _, _, _, q1, o1, q2, q3, (o3 K3 (m2.trans m3)).1, (o3 K3 (m2.trans m3)).2, r1, r2, r3, r9, r4, r5, .inl ⟨hc, bad _ _ hgv⟩⟩
      | ok y r =>
        rw [hx] at x3 hgv
        obtain ⟨k3, rfl, e3, t3, m3⟩ := x3
        have m13 := m2.trans m3
        have mK3 := mE1.trans m13
        obtain ⟨a', n', c', K4, r1, r2, r3, r4, r5, r6, r7, r8, r9, r10, r11⟩ := all K3 b _ _ _ e3 m13
        have hsz := zh5 hgv
        simp only [List.length_drop] at hsz
        have l12 := m2.le
        rw [List.length_set] at l12
        have l3 := m3.le
        refine ⟨_, _, K1, K2, K3, b, a', n', c', K4, k3, 0, 0, q1, o1, q2, q3, (o3 K3 m13).1, (o3 K3 m13).2, r1, r2, r3, r9, r4, r5, .inr ⟨rfl, rfl, by omega, fun z => S z ∨ Iv K2.length K3.length z, ⟨(y4 P k).text, (y4 P k).at_, y⟩, ?_, ?_, ?_, r7, ?_⟩⟩
        · rw [yaw gs.len]; exact r6
        · refine GsP.snoc (t3.keep fun c o hc ho => r10 c o ho (by have := hc.1; omega) (by have := hc.1; omega) fun hh => by have := (own.lt hh).2; have := hc.1; omega) (gs.keep fun c o hc ho => r10 c o (mK3.keep c o ho (by have := (hS c hc).1; omega) (by have := (hS c hc).1; omega)) (by have := (hS c hc).2.1; omega) (by have := (hS c hc).1; omega) (hS c hc).2.2) fun z hz hT => by have := (hS z hz).2.1; have := hT.1; omega
        · intro z hz
          rcases hz with hz | hz
          · obtain ⟨s1, s2, s3⟩ := hS z hz
            exact ⟨s1, by omega, r8 z (by omega) s3⟩
          · have := hz.1; have := hz.2
            exact ⟨by omega, by omega, r8 z (by omega) fun hh => by have := (own.lt hh).2; omega⟩
        · rw [ycw hgv] at hg
          cases kw : (keyT (y4 P k3) == wAnd)
          · rw [kw, if_neg Bool.false_ne_true] at hg
            rw [if_neg Bool.false_ne_true]; exact hg
          · rw [kw, if_pos rfl] at hg
            rw [if_pos rfl]
            cases hq : ft P.en (P.L.length + 1) (P.L.drop (k3 + 1)) with
            | bad c a => rw [hq] at hg; exact hg
            | ok gs2 r => rw [hq] at hg; simp only at hg ⊢; rw [hg]; simp
end Go.Proofs.YtljdbheclfaloaaGreatDoor.AM
namespace Go.Proofs.YtljdbheclfaloaaGreatDoor.AM
open Go.RowKit
set_option linter.unusedSimpArgs false
set_option linter.unusedVariables false

theorem zqe {P : RP} {h : Heap} {R : PR Stm} (rc : Bool) (K : Heap) (k : Nat) (eK : Rd P K k 0 0 0) (mK : Mv P h K) (h0 : K[h.length]? = some (.cells z4 0 false)) (h1 : K[h.length + 1]? = some (.cells [str (kwOf rc), .slice none 0 0, nilP, str []] 0 false)) (hRk : R = ziw P.en rc (P.L.drop k)) : LetS P h R rc (P.L.length - k + 1) K k := by
  refine ⟨.slice none 0 0, [], fun _ => False, [], rfl, eK, h0, h1, Own.nil _ _ _, trivial, fun z hz => hz.elim, by intro b hb; simp [blk] at hb, mK, Nat.zero_le _, ?_⟩
  unfold ziw at hRk
  rw [zhc P.en _ (P.L.length + 1) (P.L.drop k) (Nat.lt_succ_self _) (by simp; omega)] at hRk
  rw [hRk]
  cases ft P.en (P.L.length + 1) (P.L.drop k) <;> rfl
theorem ybn {P : RP} {k k' : Nat} {c : Ck} {x : Ex} (h : zbi P.en 32 (P.L.drop k) = .ok x (P.L.drop k')) : zdk P.en c (P.L.drop k) = if keyT (y4 P k') == wAs then (if zbc (y4 P (k' + 1)) then .ok (.chk c x (y4 P (k' + 1)).text) (P.L.drop (k' + 1 + 1)) else .bad (zat P (k' + 1)) (za9 P (k' + 1))) else .ok (.chk c x []) (P.L.drop k') := by
  unfold zdk
  rw [h]
  by_cases hk : k' < P.L.length
  · rw [gw hk]
    simp only
    rw [zux]
    split
    · split <;> (rename_i hh; split at hh <;> first | (cases hh; done) | (rename_i hh2; cases hh; simp [hh2]) | skip)
      all_goals simp_all
    · rfl
  · rw [List.drop_eq_nil_of_le (by omega), j1 hk, zeu]; rfl
theorem Rd.finS {P : RP} {h H : Heap} {i k x a : Nat} (e : Rd P h i 0 0 0) (e' : Rd P H k 0 x a) (m : Mv P h H) (v : Value) (hne : i ≠ k ∨ x ≠ 0) : AM.finish h v H = H := e.fin e' m v (by rcases hne with h | h <;> simp [h]; omega)
theorem zxm {P : RP} {h E : Heap} {i k x a : Nat} {R : PR Stm} {rc : Bool} {a' : Option Addr} {n' c' : Nat} (e : Rd P h i 0 0 0) (e5 : Rd P E k 0 x a) (m5 : Mv P h E)
    (h1 : E[h.length + 1]? = some (.cells [str (kwOf rc), .slice a' n' c', nilP, str []] 0 false)) (hx : x ≠ 0) (hR : R = .bad x a) : StR P h (agg [str (kwOf rc), .slice a' n' c', nilP, str []]) (E.set h.length (.cells [str (kwOf rc), .slice a' n' c', nilP, str []] 0 false)) R := by
  rw [hR]
  exact ⟨_, rfl, rfl, hx, ⟨k, e.upd e5 (Nat.le_refl _) _⟩, m5.upd (Nat.le_refl _) _⟩
theorem zhd {P : RP} {h E : Heap} {i k : Nat} {c : Ck} (e : Rd P h i 0 0 0) (eE : Rd P E k 0 0 0) (mE : Mv P h E) (h0 : E[h.length]? = some (.cells z4 0 false)) (h1 : E[h.length + 1]? = some (.cells [str (ckS c), .slice none 0 0, nilP, str []] 0 false)) (hik : i < k) :
    ∃ b K3 k3 x a, DF FF xw [pt P.r] E = some (pt b, K3) ∧ K3[h.length + 1]? = some (.cells [str (ckS c), .slice none 0 0, nilP, str []] 0 false) ∧
      Rd P (K3.set (h.length + 1) (.cells [str (ckS c), .slice none 0 0, pt b, str []] 0 false)) k3 0 x a ∧ (K3.set (h.length + 1) (.cells [str (ckS c), .slice none 0 0, pt b, str []] 0 false))[h.length]? = some (.cells z4 0 false) ∧
      (K3.set (h.length + 1) (.cells [str (ckS c), .slice none 0 0, pt b, str []] 0 false))[h.length + 1]? = some (.cells [str (ckS c), .slice none 0 0, pt b, str []] 0 false) ∧
      ((x ≠ 0 ∧ (∀ v, AM.finish h v ((K3.set (h.length + 1) (.cells [str (ckS c), .slice none 0 0, pt b, str []] 0 false)).set h.length (.cells [str (ckS c), .slice none 0 0, pt b, str []] 0 false)) = (K3.set (h.length + 1) (.cells [str (ckS c), .slice none 0 0, pt b, str []] 0 false)).set h.length (.cells [str (ckS c), .slice none 0 0, pt b, str []] 0 false)) ∧
        StR P h (agg [str (ckS c), .slice none 0 0, pt b, str []]) ((K3.set (h.length + 1) (.cells [str (ckS c), .slice none 0 0, pt b, str []] 0 false)).set h.length (.cells [str (ckS c), .slice none 0 0, pt b, str []] 0 false)) (zdk P.en c (P.L.drop k))) ∨
       (x = 0 ∧ ∃ K5, DF FF w6 [pt P.c, .slice (some ⟨K3.length, 0, some 0⟩) 1 1] (K3.set (h.length + 1) (.cells [str (ckS c), .slice none 0 0, pt b, str []] 0 false) ++ [.cells [str [97, 115]] 0 false]) = some (.bool (keyT (y4 P k3) == wAs), K5) ∧
        K5[h.length]? = some (.cells z4 0 false) ∧ K5[h.length + 1]? = some (.cells [str (ckS c), .slice none 0 0, pt b, str []] 0 false) ∧
        (((keyT (y4 P k3) == wAs) = false ∧ (∀ v, AM.finish h v (K5.set h.length (.cells [str (ckS c), .slice none 0 0, pt b, str []] 0 false)) = K5.set h.length (.cells [str (ckS c), .slice none 0 0, pt b, str []] 0 false)) ∧
          StR P h (agg [str (ckS c), .slice none 0 0, pt b, str []]) (K5.set h.length (.cells [str (ckS c), .slice none 0 0, pt b, str []] 0 false)) (zdk P.en c (P.L.drop k))) ∨
         ((keyT (y4 P k3) == wAs) = true ∧ ∃ w p K6, DF FF ji [pt P.r] K5 = some (tup [str w, .int .i64 p], K6) ∧ K6[h.length + 1]? = some (.cells [str (ckS c), .slice none 0 0, pt b, str []] 0 false) ∧ K6[h.length]? = some (.cells z4 0 false) ∧
          (∀ v, AM.finish h v ((K6.set (h.length + 1) (.cells [str (ckS c), .slice none 0 0, pt b, str w] 0 false)).set h.length (.cells [str (ckS c), .slice none 0 0, pt b, str w] 0 false)) = (K6.set (h.length + 1) (.cells [str (ckS c), .slice none 0 0, pt b, str w] 0 false)).set h.length (.cells [str (ckS c), .slice none 0 0, pt b, str w] 0 false)) ∧
          StR P h (agg [str (ckS c), .slice none 0 0, pt b, str w]) ((K6.set (h.length + 1) (.cells [str (ckS c), .slice none 0 0, pt b, str w] 0 false)).set h.length (.cells [str (ckS c), .slice none 0 0, pt b, str w] 0 false)) (zdk P.en c (P.L.drop k)))))) := by
  have lr := e.lr; have lc := e.lc; have lE := mE.le
  have lz := (List.getElem?_eq_some_iff.1 h1).1
  obtain ⟨v, K3, q3, x3⟩ := yas P 32 0 rfl E k eE
  obtain ⟨b, rfl⟩ := x3.ptr
  have m3 : Mv P E K3 := by
    cases hx : zbi P.en 32 (P.L.drop k) with
    | ok y r => rw [hx] at x3; obtain ⟨_, _, _, _, m⟩ := x3; exact m
    | bad c a => rw [hx] at x3; exact x3.2.2.1
  have t1 := m3.keep _ _ h1 (by omega) (by omega)
  have t0 := m3.keep _ _ h0 (by omega) (by omega)
  have l3 := (List.getElem?_eq_some_iff.1 t1).1
  have mF : Mv P h (K3.set (h.length + 1) (.cells [str (ckS c), .slice none 0 0, pt b, str []] 0 false)) := (mE.trans m3).upd (by omega) _
  have u0 : (K3.set (h.length + 1) (.cells [str (ckS c), .slice none 0 0, pt b, str []] 0 false))[h.length]? = some (.cells z4 0 false) := by rw [List.getElem?_set_ne (by omega)]; exact t0
  have u1 : (K3.set (h.length + 1) (.cells [str (ckS c), .slice none 0 0, pt b, str []] 0 false))[h.length + 1]? = some (.cells [str (ckS c), .slice none 0 0, pt b, str []] 0 false) := List.getElem?_set_self l3
  cases hx : zbi P.en 32 (P.L.drop k) with
  | bad ec ea =>
    rw [hx] at x3
    obtain ⟨hc, ⟨k3, e3⟩, _, _⟩ := x3
    have eF : Rd P (K3.set (h.length + 1) (.cells [str (ckS c), .slice none 0 0, pt b, str []] 0 false)) k3 0 ec ea := e.upd e3 (by omega) _
    have hR : zdk P.en c (P.L.drop k) = .bad ec ea := by unfold zdk; rw [hx]
    refine ⟨b, K3, k3, ec, ea, q3, t1, eF, u0, u1, .inl ⟨hc, fun v => e.finS (e.upd eF (Nat.le_refl _) _) (mF.upd (Nat.le_refl _) _) v (.inr hc), ?_⟩⟩
    rw [hR]
    exact ⟨_, rfl, rfl, hc, ⟨k3, e.upd eF (Nat.le_refl _) _⟩, mF.upd (Nat.le_refl _) _⟩
  | ok y r =>
    rw [hx] at x3
    obtain ⟨k3, rfl, e3, tr, _⟩ := x3
    have hsz := za6 _ _ _ _ _ hx
    simp only [List.length_drop] at hsz
    have eF : Rd P (K3.set (h.length + 1) (.cells [str (ckS c), .slice none 0 0, pt b, str []] 0 false)) k3 0 0 0 := e.upd e3 (by omega) _
    obtain ⟨K5, q5, e5, m5⟩ := zh8 (eF.more [.cells [str wAs] 0 false]) (m := wAs) (by simp [wAs]) (zl5 _ wAs)
    have m5' := (Mv.add P (K3.set (h.length + 1) (.cells [str (ckS c), .slice none 0 0, pt b, str []] 0 false)) [.cells [str wAs] 0 false]).trans m5
    have s0 := m5'.keep _ _ u0 (by omega) (by omega)
    have s1 := m5'.keep _ _ u1 (by omega) (by omega)
    have hR := ybn (c := c) hx
    have tr5 : ∀ G, Mv P K5 G → ∀ l l', TreeP ((G.set (h.length + 1) (.cells l 0 false)).set h.length (.cells l' 0 false)) (Iv h.length ((G.set (h.length + 1) (.cells l 0 false)).set h.length (.cells l' 0 false)).length) (pt b) y := fun G mG l l' =>
      (tr.keep fun z o hz ho => by
        have := hz.1
        rw [List.getElem?_set_ne (by omega), List.getElem?_set_ne (by omega)]
        exact mG.keep z o (m5'.keep z o (by rw [List.getElem?_set_ne (by omega)]; exact ho) (by omega) (by omega)) (by omega) (by omega)).weak fun z hz => ⟨by have := hz.1; omega, by have := hz.2; have h5 := m5'.le; have := mG.le; rw [List.length_set] at h5; rw [List.length_set, List.length_set]; omega⟩
    simp only [wAs, List.length_set] at q5
    refine ⟨b, K3, k3, 0, 0, q3, t1, eF, u0, u1, .inr ⟨rfl, K5, q5, s0, s1, ?_⟩⟩
    rw [hR]
    cases ka : (keyT (y4 P k3) == wAs)
    · rw [ka, if_neg Bool.false_ne_true] at e5
      rw [if_neg Bool.false_ne_true]
      refine .inl ⟨rfl, fun v => e.finS (e.upd e5 (Nat.le_refl _) _) ((mF.trans m5').upd (Nat.le_refl _) _) v (.inl (by omega)), _, k3, rfl, rfl, e.upd e5 (Nat.le_refl _) _, ⟨pt b, rfl, ?_⟩, (mF.trans m5').upd (Nat.le_refl _) _⟩
      have := tr5 K5 (Mv.refl P K5) [str (ckS c), .slice none 0 0, pt b, str []] [str (ckS c), .slice none 0 0, pt b, str []]
      rwa [ycd s1] at this
    · rw [ka, if_pos rfl] at e5
      rw [if_pos rfl]
      obtain ⟨w, p, K6, q6, x6, m6⟩ := yak e5
      have s0' := m6.keep _ _ s0 (by omega) (by omega)
      have s1' := m6.keep _ _ s1 (by omega) (by omega)
      have mG := (((mF.trans m5').trans m6).upd (b := h.length + 1) (by omega) (.cells [str (ckS c), .slice none 0 0, pt b, str w] 0 false)).upd (Nat.le_refl _) (.cells [str (ckS c), .slice none 0 0, pt b, str w] 0 false)
      cases hn : zbc (y4 P (k3 + 1))
      · rw [hn, if_neg Bool.false_ne_true] at x6
        rw [if_neg Bool.false_ne_true]
        have eG : Rd P ((K6.set (h.length + 1) (.cells [str (ckS c), .slice none 0 0, pt b, str w] 0 false)).set h.length (.cells [str (ckS c), .slice none 0 0, pt b, str w] 0 false)) _ 0 _ _ := e.upd (e.upd x6 (by omega) _) (Nat.le_refl _) _
        exact .inr ⟨rfl, w, p, K6, q6, s1', s0', fun v => e.finS eG mG v (.inr (fg P _)), _, rfl, rfl, fg P _, ⟨_, eG⟩, mG⟩
      · rw [hn, if_pos rfl] at x6
        rw [if_pos rfl]
        obtain ⟨rfl, rfl, x6⟩ := x6
        have eG : Rd P ((K6.set (h.length + 1) (.cells [str (ckS c), .slice none 0 0, pt b, str (y4 P (k3 + 1)).text] 0 false)).set h.length (.cells [str (ckS c), .slice none 0 0, pt b, str (y4 P (k3 + 1)).text] 0 false)) _ 0 _ _ := e.upd (e.upd x6 (by omega) _) (Nat.le_refl _) _
        exact .inr ⟨rfl, _, _, K6, q6, s1', s0', fun v => e.finS eG mG v (.inl (by omega)), _, _, rfl, rfl, eG, ⟨pt b, rfl, tr5 K6 m6 _ _⟩, mG⟩
set_option maxHeartbeats 8000000 in
theorem zsh {P : RP} {h : Heap} {i : Nat} (e : Rd P h i 0 0 0) (hi : i < P.L.length) : ∃ v h', DF FF gp [pt P.r] h = some (v, h') ∧ StR P h v h' (ze6 P.en (P.L.drop i)) := by
  refine ww zfh ?_
  have lr := e.lr; have lc := e.lc; have hL := P.len
  obtain ⟨R, hR⟩ : ∃ R, R = ze6 P.en (P.L.drop i) := ⟨_, rfl⟩
  rw [← hR]
  rw [gw hi, ze6] at hR
  have e0 := e.more [.cells z4 0 false, .cells z4 0 false]
  have m0 : Mv P h (h ++ [.cells z4 0 false, .cells z4 0 false]) := Mv.add P h _
  obtain ⟨H0, hH0⟩ : ∃ H0, H0 = h ++ [AObj.cells z4 0 false, .cells z4 0 false] := ⟨_, rfl⟩
  have o1 : H0[h.length]? = some (.cells z4 0 false) := by rw [hH0]; simp
  have o2 : H0[h.length + 1]? = some (.cells z4 0 false) := by rw [hH0]; simp
  have l2 : H0.length = h.length + 2 := by rw [hH0]; simp
  rw [← hH0] at e0 m0
  have hz : H0 = h ++ [AObj.cells [str [], .slice none 0 0, .pointer none, str []] 0 false, .cells [str [], .slice none 0 0, .pointer none, str []] 0 false] := hH0
  obtain ⟨K1, q1, e1, m1⟩ := zh8 (e0.more [.cells [str wLet] 0 false]) (m := wLet) (by simp [wLet]) (zl5 H0 wLet)
  have m1' : Mv P H0 K1 := (Mv.add P H0 _).trans m1
  have p1 : ∀ K, Mv P H0 K → K[h.length]? = some (.cells z4 0 false) := fun K m => m.keep _ _ o1 (by omega) (by omega)
  have p2 : ∀ K, Mv P H0 K → K[h.length + 1]? = some (.cells z4 0 false) := fun K m => m.keep _ _ o2 (by omega) (by omega)
  simp only [wLet] at q1
  cases kl : (keyT (y4 P i) == wLet)
  · rw [kl, if_neg Bool.false_ne_true] at e1 hR
    rw [show (keyT (y4 P i) == [108, 101, 116]) = false from kl] at q1
    obtain ⟨K2, q2, e2, m2⟩ := zh8 (e1.more [.cells [str zab] 0 false]) (m := zab) (by simp [zab]) (zl5 K1 zab)
    have m2' : Mv P H0 K2 := (m1'.trans (Mv.add P K1 _)).trans m2
    simp only [zab] at q2
    cases kacyclic : (keyT (y4 P i) == zab)
    rotate_left
    · rw [kacyclic, if_pos rfl] at e2 hR
      rw [show (keyT (y4 P i) == [97, 99, 121, 99, 108, 105, 99]) = true from kacyclic] at q2
      have oK := p2 K2 m2'
      have lzK := (List.getElem?_eq_some_iff.1 oK).1
      obtain ⟨E, hE⟩ : ∃ E, E = K2.set (h.length + 1) (.cells [str (ckS .acyclic), .slice none 0 0, nilP, str []] 0 false) := ⟨_, rfl⟩
      have wE : Heap.write1 K2 ⟨h.length + 1, 0, some 0⟩ (str [97, 99, 121, 99, 108, 105, 99]) = some E := by rw [ph oK (by simp [z4]), hE]; rfl
      have eE : Rd P E (i + 1) 0 0 0 := by rw [hE]; exact e.upd e2 (by omega) _
      have mE : Mv P h E := by rw [hE]; exact (m0.trans m2').upd (by omega) _
      have zE : E[h.length]? = some (.cells z4 0 false) := by rw [hE, List.getElem?_set_ne (by omega)]; exact p1 K2 m2'
      have uE : E[h.length + 1]? = some (.cells [str (ckS .acyclic), .slice none 0 0, nilP, str []] 0 false) := by rw [hE, List.getElem?_set_self lzK]
      obtain ⟨b, K3, k3, x, a, c1, c2, c3, c4, c5, c6⟩ := zhd e eE mE zE uE (by omega)
      have wF : Heap.write1 K3 ⟨h.length + 1, 2, some 0⟩ (pt b) = some (K3.set (h.length + 1) (.cells [str (ckS .acyclic), .slice none 0 0, pt b, str []] 0 false)) := by rw [ph c2 (by simp)]; rfl
      rw [hR]
      rcases c6 with ⟨hx, f1, f2⟩ | ⟨rfl, K5, d1, d2, d3, ⟨ka, f1, f2⟩ | ⟨ka, w, p, K6, g1, g2, g3, f1, f2⟩⟩
      · have rd3 : Heap.read (K3.set (h.length + 1) (.cells [str (ckS .acyclic), .slice none 0 0, pt b, str []] 0 false)) ⟨h.length + 1, 0, some 0⟩ 4 = some [str (ckS .acyclic), .slice none 0 0, pt b, str []] := zj8 c5 (by simp)
        have wr5 : Heap.write (K3.set (h.length + 1) (.cells [str (ckS .acyclic), .slice none 0 0, pt b, str []] 0 false)) ⟨h.length, 0, some 0⟩ [str (ckS .acyclic), .slice none 0 0, pt b, str []] = some ((K3.set (h.length + 1) (.cells [str (ckS .acyclic), .slice none 0 0, pt b, str []] 0 false)).set h.length (.cells [str (ckS .acyclic), .slice none 0 0, pt b, str []] 0 false)) := zcx c4 (by simp [z4])
        have rd4 : Heap.read ((K3.set (h.length + 1) (.cells [str (ckS .acyclic), .slice none 0 0, pt b, str []] 0 false)).set h.length (.cells [str (ckS .acyclic), .slice none 0 0, pt b, str []] 0 false)) ⟨h.length, 0, some 0⟩ 4 = some [str (ckS .acyclic), .slice none 0 0, pt b, str []] := fm (List.getElem?_eq_some_iff.1 c4).1 (by simp)
        simp only [xt, ya, zs, xe, yl, zb, zx, zu, yb, zm, yf, zc, zp, vd, zo, zf, ze, zd, List.set_cons_succ, List.set_cons_zero, O_mv, y0, xg, yg, ye, List.map_cons, List.map_nil, zy, zk, xr, y5, w5, wo, yd, z8, xd, xi, yy, Nat.lt_add_one, List.cons_append, List.nil_append, List.length_cons, List.length_nil, Nat.reduceAdd, Nat.reduceSub, Nat.zero_add, zn, yc, zz, za, zi, slc, yq, xb, z7, zl, xc, qo, yu, z6, zq, zj, zh, zg, List.append_assoc, List.length_append, List.append_nil, Nat.add_zero, Option.map_some, List.getElem?_cons_zero, eq_self, yj, wj, Option.map_some, wm, zau, jp, kf, ← hz, e0.r0, q1,  e1.r0, q2, wE, c1, wF, fd c3 hx, rd3, wr5, rd4, f1]
        exact f2
      · rw [ka] at d1
        have rd3 : Heap.read K5 ⟨h.length + 1, 0, some 0⟩ 4 = some [str (ckS .acyclic), .slice none 0 0, pt b, str []] := zj8 d3 (by simp)
        have wr5 : Heap.write K5 ⟨h.length, 0, some 0⟩ [str (ckS .acyclic), .slice none 0 0, pt b, str []] = some (K5.set h.length (.cells [str (ckS .acyclic), .slice none 0 0, pt b, str []] 0 false)) := zcx d2 (by simp [z4])
        have rd4 : Heap.read (K5.set h.length (.cells [str (ckS .acyclic), .slice none 0 0, pt b, str []] 0 false)) ⟨h.length, 0, some 0⟩ 4 = some [str (ckS .acyclic), .slice none 0 0, pt b, str []] := fm (List.getElem?_eq_some_iff.1 d2).1 (by simp)
        simp only [xt, ya, zs, xe, yl, zb, zx, zu, yb, zm, yf, zc, zp, xq, zo, zf, ze, zd, List.set_cons_succ, List.set_cons_zero, O_mv, y0, xg, yg, ye, List.map_cons, List.map_nil, zy, zk, xr, y5, w5, wo, yd, z8, xd, xi, yy, Nat.lt_add_one, List.cons_append, List.nil_append, List.length_cons, List.length_nil, Nat.reduceAdd, Nat.reduceSub, Nat.zero_add, zn, yc, zz, za, zi, slc, yq, xb, z7, zl, xc, qo, yu, z6, zq, zj, zh, zg, List.append_assoc, List.length_append, List.append_nil, Nat.add_zero, Option.map_some, List.getElem?_cons_zero, eq_self, yj, wj, Option.map_some, wm, zau, jp, kf, ← hz, e0.r0, q1,  e1.r0, q2, wE, c1, wF, ok_0 c3, c3.r0, List.length_set, d1, rd3, wr5, rd4, f1]
        exact f2
      · rw [ka] at d1
        have wG : Heap.write1 K6 ⟨h.length + 1, 3, some 0⟩ (str w) = some (K6.set (h.length + 1) (.cells [str (ckS .acyclic), .slice none 0 0, pt b, str w] 0 false)) := by rw [ph g2 (by simp)]; rfl
        have rd3 : Heap.read (K6.set (h.length + 1) (.cells [str (ckS .acyclic), .slice none 0 0, pt b, str w] 0 false)) ⟨h.length + 1, 0, some 0⟩ 4 = some [str (ckS .acyclic), .slice none 0 0, pt b, str w] := fm (List.getElem?_eq_some_iff.1 g2).1 (by simp)
        have g3' : (K6.set (h.length + 1) (.cells [str (ckS .acyclic), .slice none 0 0, pt b, str w] 0 false))[h.length]? = some (.cells z4 0 false) := by rw [List.getElem?_set_ne (by omega)]; exact g3
        have wr5 : Heap.write (K6.set (h.length + 1) (.cells [str (ckS .acyclic), .slice none 0 0, pt b, str w] 0 false)) ⟨h.length, 0, some 0⟩ [str (ckS .acyclic), .slice none 0 0, pt b, str w] = some ((K6.set (h.length + 1) (.cells [str (ckS .acyclic), .slice none 0 0, pt b, str w] 0 false)).set h.length (.cells [str (ckS .acyclic), .slice none 0 0, pt b, str w] 0 false)) := zcx g3' (by simp [z4])
        have rd4 : Heap.read ((K6.set (h.length + 1) (.cells [str (ckS .acyclic), .slice none 0 0, pt b, str w] 0 false)).set h.length (.cells [str (ckS .acyclic), .slice none 0 0, pt b, str w] 0 false)) ⟨h.length, 0, some 0⟩ 4 = some [str (ckS .acyclic), .slice none 0 0, pt b, str w] := fm (List.getElem?_eq_some_iff.1 g3').1 (by simp)
        simp only [xt, ya, zs, xe, zb, zx, zu, yb, zm, yf, zc, zp, xq, zo, zf, ze, zd, List.set_cons_succ, List.set_cons_zero, O_mv, y0, xg, yg, ye, List.map_cons, List.map_nil, zy, zk, xr, y5, w5, wo, yd, z8, xd, xi, yy, Nat.lt_add_one, List.cons_append, List.nil_append, List.length_cons, List.length_nil, Nat.reduceAdd, Nat.reduceSub, Nat.zero_add, zn, yc, zz, za, zi, slc, yq, xb, z7, xh, y7, zl, xc, qo, yu, z6, zq, zj, zh, zg, List.append_assoc, List.length_append, List.append_nil, Nat.add_zero, Option.map_some, List.getElem?_cons_zero, List.getElem?_cons_succ, eq_self, yj, wj, Option.map_some, wm, zau, jp, kf, ← hz, e0.r0, q1,  e1.r0, q2, wE, c1, wF, ok_0 c3, c3.r0, List.length_set, d1, g1, wG, rd3, wr5, rd4, f1]
        exact f2
    rw [kacyclic, if_neg Bool.false_ne_true] at e2 hR
    rw [show (keyT (y4 P i) == [97, 99, 121, 99, 108, 105, 99]) = false from kacyclic] at q2
    obtain ⟨K3, q3, e3, m3⟩ := zh8 (e2.more [.cells [str wIrr] 0 false]) (m := wIrr) (by simp [wIrr]) (zl5 K2 wIrr)
    have m3' : Mv P H0 K3 := (m2'.trans (Mv.add P K2 _)).trans m3
    simp only [wIrr] at q3
    cases kirr : (keyT (y4 P i) == wIrr)
    rotate_left
    · rw [kirr, if_pos rfl] at e3 hR
      rw [show (keyT (y4 P i) == [105, 114, 114, 101, 102, 108, 101, 120, 105, 118, 101]) = true from kirr] at q3
      have oK := p2 K3 m3'
      have lzK := (List.getElem?_eq_some_iff.1 oK).1
      obtain ⟨E, hE⟩ : ∃ E, E = K3.set (h.length + 1) (.cells [str (ckS .irr), .slice none 0 0, nilP, str []] 0 false) := ⟨_, rfl⟩
      have wE : Heap.write1 K3 ⟨h.length + 1, 0, some 0⟩ (str [105, 114, 114, 101, 102, 108, 101, 120, 105, 118, 101]) = some E := by rw [ph oK (by simp [z4]), hE]; rfl
      have eE : Rd P E (i + 1) 0 0 0 := by rw [hE]; exact e.upd e3 (by omega) _
      have mE : Mv P h E := by rw [hE]; exact (m0.trans m3').upd (by omega) _
      have zE : E[h.length]? = some (.cells z4 0 false) := by rw [hE, List.getElem?_set_ne (by omega)]; exact p1 K3 m3'
      have uE : E[h.length + 1]? = some (.cells [str (ckS .irr), .slice none 0 0, nilP, str []] 0 false) := by rw [hE, List.getElem?_set_self lzK]
      obtain ⟨b, K3, k3, x, a, c1, c2, c3, c4, c5, c6⟩ := zhd e eE mE zE uE (by omega)
      have wF : Heap.write1 K3 ⟨h.length + 1, 2, some 0⟩ (pt b) = some (K3.set (h.length + 1) (.cells [str (ckS .irr), .slice none 0 0, pt b, str []] 0 false)) := by rw [ph c2 (by simp)]; rfl
      rw [hR]
      rcases c6 with ⟨hx, f1, f2⟩ | ⟨rfl, K5, d1, d2, d3, ⟨ka, f1, f2⟩ | ⟨ka, w, p, K6, g1, g2, g3, f1, f2⟩⟩
      · have rd3 : Heap.read (K3.set (h.length + 1) (.cells [str (ckS .irr), .slice none 0 0, pt b, str []] 0 false)) ⟨h.length + 1, 0, some 0⟩ 4 = some [str (ckS .irr), .slice none 0 0, pt b, str []] := zj8 c5 (by simp)
        have wr5 : Heap.write (K3.set (h.length + 1) (.cells [str (ckS .irr), .slice none 0 0, pt b, str []] 0 false)) ⟨h.length, 0, some 0⟩ [str (ckS .irr), .slice none 0 0, pt b, str []] = some ((K3.set (h.length + 1) (.cells [str (ckS .irr), .slice none 0 0, pt b, str []] 0 false)).set h.length (.cells [str (ckS .irr), .slice none 0 0, pt b, str []] 0 false)) := zcx c4 (by simp [z4])
        have rd4 : Heap.read ((K3.set (h.length + 1) (.cells [str (ckS .irr), .slice none 0 0, pt b, str []] 0 false)).set h.length (.cells [str (ckS .irr), .slice none 0 0, pt b, str []] 0 false)) ⟨h.length, 0, some 0⟩ 4 = some [str (ckS .irr), .slice none 0 0, pt b, str []] := fm (List.getElem?_eq_some_iff.1 c4).1 (by simp)
        simp only [xt, ya, zs, xe, yl, zb, zx, zu, yb, zm, yf, zc, zp, vd, zo, zf, ze, zd, List.set_cons_succ, List.set_cons_zero, O_mv, y0, xg, yg, ye, List.map_cons, List.map_nil, zy, zk, xr, y5, w5, wo, yd, z8, xd, xi, yy, Nat.lt_add_one, List.cons_append, List.nil_append, List.length_cons, List.length_nil, Nat.reduceAdd, Nat.reduceSub, Nat.zero_add, zn, yc, zz, za, zi, slc, yq, xb, z7, zl, xc, qo, yu, z6, zq, zj, zh, zg, List.append_assoc, List.length_append, List.append_nil, Nat.add_zero, Option.map_some, List.getElem?_cons_zero, eq_self, yj, wj, Option.map_some, wm, zau, jp, kf, ← hz, e0.r0, q1,  e1.r0, q2, e2.r0, q3, wE, c1, wF, fd c3 hx, rd3, wr5, rd4, f1]
        exact f2
      · rw [ka] at d1
        have rd3 : Heap.read K5 ⟨h.length + 1, 0, some 0⟩ 4 = some [str (ckS .irr), .slice none 0 0, pt b, str []] := zj8 d3 (by simp)
        have wr5 : Heap.write K5 ⟨h.length, 0, some 0⟩ [str (ckS .irr), .slice none 0 0, pt b, str []] = some (K5.set h.length (.cells [str (ckS .irr), .slice none 0 0, pt b, str []] 0 false)) := zcx d2 (by simp [z4])
        have rd4 : Heap.read (K5.set h.length (.cells [str (ckS .irr), .slice none 0 0, pt b, str []] 0 false)) ⟨h.length, 0, some 0⟩ 4 = some [str (ckS .irr), .slice none 0 0, pt b, str []] := fm (List.getElem?_eq_some_iff.1 d2).1 (by simp)
        simp only [xt, ya, zs, xe, yl, zb, zx, zu, yb, zm, yf, zc, zp, xq, zo, zf, ze, zd, List.set_cons_succ, List.set_cons_zero, O_mv, y0, xg, yg, ye, List.map_cons, List.map_nil, zy, zk, xr, y5, w5, wo, yd, z8, xd, xi, yy, Nat.lt_add_one, List.cons_append, List.nil_append, List.length_cons, List.length_nil, Nat.reduceAdd, Nat.reduceSub, Nat.zero_add, zn, yc, zz, za, zi, slc, yq, xb, z7, zl, xc, qo, yu, z6, zq, zj, zh, zg, List.append_assoc, List.length_append, List.append_nil, Nat.add_zero, Option.map_some, List.getElem?_cons_zero, eq_self, yj, wj, Option.map_some, wm, zau, jp, kf, ← hz, e0.r0, q1,  e1.r0, q2, e2.r0, q3, wE, c1, wF, ok_0 c3, c3.r0, List.length_set, d1, rd3, wr5, rd4, f1]
        exact f2
      · rw [ka] at d1
        have wG : Heap.write1 K6 ⟨h.length + 1, 3, some 0⟩ (str w) = some (K6.set (h.length + 1) (.cells [str (ckS .irr), .slice none 0 0, pt b, str w] 0 false)) := by rw [ph g2 (by simp)]; rfl
        have rd3 : Heap.read (K6.set (h.length + 1) (.cells [str (ckS .irr), .slice none 0 0, pt b, str w] 0 false)) ⟨h.length + 1, 0, some 0⟩ 4 = some [str (ckS .irr), .slice none 0 0, pt b, str w] := fm (List.getElem?_eq_some_iff.1 g2).1 (by simp)
        have g3' : (K6.set (h.length + 1) (.cells [str (ckS .irr), .slice none 0 0, pt b, str w] 0 false))[h.length]? = some (.cells z4 0 false) := by rw [List.getElem?_set_ne (by omega)]; exact g3
        have wr5 : Heap.write (K6.set (h.length + 1) (.cells [str (ckS .irr), .slice none 0 0, pt b, str w] 0 false)) ⟨h.length, 0, some 0⟩ [str (ckS .irr), .slice none 0 0, pt b, str w] = some ((K6.set (h.length + 1) (.cells [str (ckS .irr), .slice none 0 0, pt b, str w] 0 false)).set h.length (.cells [str (ckS .irr), .slice none 0 0, pt b, str w] 0 false)) := zcx g3' (by simp [z4])
        have rd4 : Heap.read ((K6.set (h.length + 1) (.cells [str (ckS .irr), .slice none 0 0, pt b, str w] 0 false)).set h.length (.cells [str (ckS .irr), .slice none 0 0, pt b, str w] 0 false)) ⟨h.length, 0, some 0⟩ 4 = some [str (ckS .irr), .slice none 0 0, pt b, str w] := fm (List.getElem?_eq_some_iff.1 g3').1 (by simp)
        simp only [xt, ya, zs, xe, zb, zx, zu, yb, zm, yf, zc, zp, xq, zo, zf, ze, zd, List.set_cons_succ, List.set_cons_zero, O_mv, y0, xg, yg, ye, List.map_cons, List.map_nil, zy, zk, xr, y5, w5, wo, yd, z8, xd, xi, yy, Nat.lt_add_one, List.cons_append, List.nil_append, List.length_cons, List.length_nil, Nat.reduceAdd, Nat.reduceSub, Nat.zero_add, zn, yc, zz, za, zi, slc, yq, xb, z7, xh, y7, zl, xc, qo, yu, z6, zq, zj, zh, zg, List.append_assoc, List.length_append, List.append_nil, Nat.add_zero, Option.map_some, List.getElem?_cons_zero, List.getElem?_cons_succ, eq_self, yj, wj, Option.map_some, wm, zau, jp, kf, ← hz, e0.r0, q1,  e1.r0, q2, e2.r0, q3, wE, c1, wF, ok_0 c3, c3.r0, List.length_set, d1, g1, wG, rd3, wr5, rd4, f1]
        exact f2
    rw [kirr, if_neg Bool.false_ne_true] at e3 hR
    rw [show (keyT (y4 P i) == [105, 114, 114, 101, 102, 108, 101, 120, 105, 118, 101]) = false from kirr] at q3
    obtain ⟨K4, q4, e4, m4⟩ := zh8 (e3.more [.cells [str zd9] 0 false]) (m := zd9) (by simp [zd9]) (zl5 K3 zd9)
    have m4' : Mv P H0 K4 := (m3'.trans (Mv.add P K3 _)).trans m4
    simp only [zd9] at q4
    cases kempty : (keyT (y4 P i) == zd9)
    rotate_left
    · rw [kempty, if_pos rfl] at e4 hR
      rw [show (keyT (y4 P i) == [101, 109, 112, 116, 121]) = true from kempty] at q4
      have oK := p2 K4 m4'
      have lzK := (List.getElem?_eq_some_iff.1 oK).1
      obtain ⟨E, hE⟩ : ∃ E, E = K4.set (h.length + 1) (.cells [str (ckS .empty), .slice none 0 0, nilP, str []] 0 false) := ⟨_, rfl⟩
      have wE : Heap.write1 K4 ⟨h.length + 1, 0, some 0⟩ (str [101, 109, 112, 116, 121]) = some E := by rw [ph oK (by simp [z4]), hE]; rfl
      have eE : Rd P E (i + 1) 0 0 0 := by rw [hE]; exact e.upd e4 (by omega) _
      have mE : Mv P h E := by rw [hE]; exact (m0.trans m4').upd (by omega) _
      have zE : E[h.length]? = some (.cells z4 0 false) := by rw [hE, List.getElem?_set_ne (by omega)]; exact p1 K4 m4'
      have uE : E[h.length + 1]? = some (.cells [str (ckS .empty), .slice none 0 0, nilP, str []] 0 false) := by rw [hE, List.getElem?_set_self lzK]
      obtain ⟨b, K3, k3, x, a, c1, c2, c3, c4, c5, c6⟩ := zhd e eE mE zE uE (by omega)
      have wF : Heap.write1 K3 ⟨h.length + 1, 2, some 0⟩ (pt b) = some (K3.set (h.length + 1) (.cells [str (ckS .empty), .slice none 0 0, pt b, str []] 0 false)) := by rw [ph c2 (by simp)]; rfl
      rw [hR]
      rcases c6 with ⟨hx, f1, f2⟩ | ⟨rfl, K5, d1, d2, d3, ⟨ka, f1, f2⟩ | ⟨ka, w, p, K6, g1, g2, g3, f1, f2⟩⟩
      · have rd3 : Heap.read (K3.set (h.length + 1) (.cells [str (ckS .empty), .slice none 0 0, pt b, str []] 0 false)) ⟨h.length + 1, 0, some 0⟩ 4 = some [str (ckS .empty), .slice none 0 0, pt b, str []] := zj8 c5 (by simp)
        have wr5 : Heap.write (K3.set (h.length + 1) (.cells [str (ckS .empty), .slice none 0 0, pt b, str []] 0 false)) ⟨h.length, 0, some 0⟩ [str (ckS .empty), .slice none 0 0, pt b, str []] = some ((K3.set (h.length + 1) (.cells [str (ckS .empty), .slice none 0 0, pt b, str []] 0 false)).set h.length (.cells [str (ckS .empty), .slice none 0 0, pt b, str []] 0 false)) := zcx c4 (by simp [z4])
        have rd4 : Heap.read ((K3.set (h.length + 1) (.cells [str (ckS .empty), .slice none 0 0, pt b, str []] 0 false)).set h.length (.cells [str (ckS .empty), .slice none 0 0, pt b, str []] 0 false)) ⟨h.length, 0, some 0⟩ 4 = some [str (ckS .empty), .slice none 0 0, pt b, str []] := fm (List.getElem?_eq_some_iff.1 c4).1 (by simp)
        simp only [xt, ya, zs, xe, yl, zb, zx, zu, yb, zm, yf, zc, zp, vd, zo, zf, ze, zd, List.set_cons_succ, List.set_cons_zero, O_mv, y0, xg, yg, ye, List.map_cons, List.map_nil, zy, zk, xr, y5, w5, wo, yd, z8, xd, xi, yy, Nat.lt_add_one, List.cons_append, List.nil_append, List.length_cons, List.length_nil, Nat.reduceAdd, Nat.reduceSub, Nat.zero_add, zn, yc, zz, za, zi, slc, yq, xb, z7, zl, xc, qo, yu, z6, zq, zj, zh, zg, List.append_assoc, List.length_append, List.append_nil, Nat.add_zero, Option.map_some, List.getElem?_cons_zero, eq_self, yj, wj, Option.map_some, wm, zau, jp, kf, ← hz, e0.r0, q1,  e1.r0, q2, e2.r0, q3, e3.r0, q4, wE, c1, wF, fd c3 hx, rd3, wr5, rd4, f1]
        exact f2
      · rw [ka] at d1
        have rd3 : Heap.read K5 ⟨h.length + 1, 0, some 0⟩ 4 = some [str (ckS .empty), .slice none 0 0, pt b, str []] := zj8 d3 (by simp)
        have wr5 : Heap.write K5 ⟨h.length, 0, some 0⟩ [str (ckS .empty), .slice none 0 0, pt b, str []] = some (K5.set h.length (.cells [str (ckS .empty), .slice none 0 0, pt b, str []] 0 false)) := zcx d2 (by simp [z4])
        have rd4 : Heap.read (K5.set h.length (.cells [str (ckS .empty), .slice none 0 0, pt b, str []] 0 false)) ⟨h.length, 0, some 0⟩ 4 = some [str (ckS .empty), .slice none 0 0, pt b, str []] := fm (List.getElem?_eq_some_iff.1 d2).1 (by simp)
        simp only [xt, ya, zs, xe, yl, zb, zx, zu, yb, zm, yf, zc, zp, xq, zo, zf, ze, zd, List.set_cons_succ, List.set_cons_zero, O_mv, y0, xg, yg, ye, List.map_cons, List.map_nil, zy, zk, xr, y5, w5, wo, yd, z8, xd, xi, yy, Nat.lt_add_one, List.cons_append, List.nil_append, List.length_cons, List.length_nil, Nat.reduceAdd, Nat.reduceSub, Nat.zero_add, zn, yc, zz, za, zi, slc, yq, xb, z7, zl, xc, qo, yu, z6, zq, zj, zh, zg, List.append_assoc, List.length_append, List.append_nil, Nat.add_zero, Option.map_some, List.getElem?_cons_zero, eq_self, yj, wj, Option.map_some, wm, zau, jp, kf, ← hz, e0.r0, q1,  e1.r0, q2, e2.r0, q3, e3.r0, q4, wE, c1, wF, ok_0 c3, c3.r0, List.length_set, d1, rd3, wr5, rd4, f1]
        exact f2
      · rw [ka] at d1
        have wG : Heap.write1 K6 ⟨h.length + 1, 3, some 0⟩ (str w) = some (K6.set (h.length + 1) (.cells [str (ckS .empty), .slice none 0 0, pt b, str w] 0 false)) := by rw [ph g2 (by simp)]; rfl
        have rd3 : Heap.read (K6.set (h.length + 1) (.cells [str (ckS .empty), .slice none 0 0, pt b, str w] 0 false)) ⟨h.length + 1, 0, some 0⟩ 4 = some [str (ckS .empty), .slice none 0 0, pt b, str w] := fm (List.getElem?_eq_some_iff.1 g2).1 (by simp)
        have g3' : (K6.set (h.length + 1) (.cells [str (ckS .empty), .slice none 0 0, pt b, str w] 0 false))[h.length]? = some (.cells z4 0 false) := by rw [List.getElem?_set_ne (by omega)]; exact g3
        have wr5 : Heap.write (K6.set (h.length + 1) (.cells [str (ckS .empty), .slice none 0 0, pt b, str w] 0 false)) ⟨h.length, 0, some 0⟩ [str (ckS .empty), .slice none 0 0, pt b, str w] = some ((K6.set (h.length + 1) (.cells [str (ckS .empty), .slice none 0 0, pt b, str w] 0 false)).set h.length (.cells [str (ckS .empty), .slice none 0 0, pt b, str w] 0 false)) := zcx g3' (by simp [z4])
        have rd4 : Heap.read ((K6.set (h.length + 1) (.cells [str (ckS .empty), .slice none 0 0, pt b, str w] 0 false)).set h.length (.cells [str (ckS .empty), .slice none 0 0, pt b, str w] 0 false)) ⟨h.length, 0, some 0⟩ 4 = some [str (ckS .empty), .slice none 0 0, pt b, str w] := fm (List.getElem?_eq_some_iff.1 g3').1 (by simp)
        simp only [xt, ya, zs, xe, zb, zx, zu, yb, zm, yf, zc, zp, xq, zo, zf, ze, zd, List.set_cons_succ, List.set_cons_zero, O_mv, y0, xg, yg, ye, List.map_cons, List.map_nil, zy, zk, xr, y5, w5, wo, yd, z8, xd, xi, yy, Nat.lt_add_one, List.cons_append, List.nil_append, List.length_cons, List.length_nil, Nat.reduceAdd, Nat.reduceSub, Nat.zero_add, zn, yc, zz, za, zi, slc, yq, xb, z7, xh, y7, zl, xc, qo, yu, z6, zq, zj, zh, zg, List.append_assoc, List.length_append, List.append_nil, Nat.add_zero, Option.map_some, List.getElem?_cons_zero, List.getElem?_cons_succ, eq_self, yj, wj, Option.map_some, wm, zau, jp, kf, ← hz, e0.r0, q1,  e1.r0, q2, e2.r0, q3, e3.r0, q4, wE, c1, wF, ok_0 c3, c3.r0, List.length_set, d1, g1, wG, rd3, wr5, rd4, f1]
        exact f2
    rw [kempty, if_neg Bool.false_ne_true] at e4 hR
    rw [show (keyT (y4 P i) == [101, 109, 112, 116, 121]) = false from kempty] at q4
    obtain ⟨K5, q5, e5, m5⟩ := zfp e4
    have m5' := m4'.trans m5
    have z0 := p1 K5 m5'
    have z1 := p2 K5 m5'
    have hz4 : z4 = [str [], .slice none 0 0, .pointer none, str []] := rfl
    have rd3 : Heap.read K5 ⟨h.length + 1, 0, some 0⟩ 4 = some [str [], .slice none 0 0, .pointer none, str []] := zj8 z1 (by simp [z4])
    have wr5 : Heap.write K5 ⟨h.length, 0, some 0⟩ [str [], .slice none 0 0, .pointer none, str []] = some (K5.set h.length (.cells z4 0 false)) := zcx z0 (by simp [z4])
    have rd4 : Heap.read (K5.set h.length (.cells z4 0 false)) ⟨h.length, 0, some 0⟩ 4 = some [str [], .slice none 0 0, .pointer none, str []] := fm (List.getElem?_eq_some_iff.1 z0).1 (by simp [z4])
    have f := fun v => e.finS (e.upd e5 (Nat.le_refl _) (.cells z4 0 false)) ((m0.trans m5').upd (Nat.le_refl _) _) v (.inr (fg P i))
    simp only [xt, ya, zs, xe, zb, zu, yb, zm, zc, zp, zo, zf, ze, zd, List.set_cons_succ, List.set_cons_zero, O_mv, yg, ye, List.map_cons, List.map_nil, zy, zk, xr, y5, w5, wo, yd, z8, xd, xi, yy, Nat.lt_add_one, List.cons_append, List.nil_append, List.length_cons, List.length_nil, Nat.reduceAdd, Nat.reduceSub, Nat.zero_add, zn, yc, zz, za, y6, wd, slc, yq, xb, z7, zl, yu, z6, zq, zj, zh, zg, List.append_assoc, List.length_append, List.append_nil, Nat.add_zero, Option.map_some, List.getElem?_cons_zero, eq_self, yj, Option.map_some, wm, zau, jp, kf, ← hz, e0.r0, q1,  e1.r0, q2, e2.r0, q3, e3.r0, q4, q5, rd3, wr5, rd4, f]
    rw [hR]
    have hc : zat P i = 22 := by unfold zat; rw [if_pos hi]
    have ha : za9 P i = (y4 P i).at_ := by unfold za9; rw [if_pos hi]
    rw [hc, ha] at e5
    exact ⟨_, rfl, by simp, by omega, ⟨i, e.upd e5 (Nat.le_refl _) _⟩, (m0.trans m5').upd (Nat.le_refl _) _⟩
  · rw [kl, if_pos rfl] at e1 hR
    rw [show (keyT (y4 P i) == [108, 101, 116]) = true from kl] at q1
    have hRk : R = if keyT (y4 P (i + 1)) == wRec then ziw P.en true (P.L.drop (i + 1 + 1)) else ziw P.en false (P.L.drop (i + 1)) := by
      rw [hR]
      by_cases hk : i + 1 < P.L.length
      · rw [gw hk]; rfl
      · rw [List.drop_eq_nil_of_le (by omega), j1 hk, zeu]; rfl
    have oK1 := p2 K1 m1'
    have hlK1 := (List.getElem?_eq_some_iff.1 oK1).1
    have eK1 : Rd P (K1.set (h.length + 1) (.cells [str wLet, .slice none 0 0, nilP, str []] 0 false)) (i + 1) 0 0 0 := e.upd e1 (by omega) _
    have mK1 : Mv P h (K1.set (h.length + 1) (.cells [str wLet, .slice none 0 0, nilP, str []] 0 false)) := (m0.trans m1').upd (by omega) _
    have zE1 : (K1.set (h.length + 1) (.cells [str wLet, .slice none 0 0, nilP, str []] 0 false))[h.length]? = some (.cells z4 0 false) := by rw [List.getElem?_set_ne (by omega)]; exact p1 K1 m1'
    obtain ⟨E1, hE1⟩ : ∃ E1, E1 = K1.set (h.length + 1) (.cells [str wLet, .slice none 0 0, nilP, str []] 0 false) := ⟨_, rfl⟩
    have oE1 : E1[h.length + 1]? = some (.cells [str wLet, .slice none 0 0, nilP, str []] 0 false) := by rw [hE1, List.getElem?_set_self hlK1]
    rw [← hE1] at eK1 mK1 zE1
    obtain ⟨K2, q2, e2, m2⟩ := zh8 (eK1.more [.cells [str wRec] 0 false]) (m := wRec) (by simp [wRec]) (zl5 E1 wRec)
    have m2' : Mv P E1 K2 := (Mv.add P E1 _).trans m2
    have zK2 := m2'.keep _ _ zE1 (by omega) (by omega)
    have oK2 : K2[h.length + 1]? = some (.cells [str wLet, .slice none 0 0, nilP, str []] 0 false) := m2'.keep _ _ oE1 (by omega) (by omega)
    have hlK2 := (List.getElem?_eq_some_iff.1 oK2).1
    simp only [wRec] at q2
    have w1 : Heap.write1 K1 ⟨h.length + 1, 0, some 0⟩ (str [108, 101, 116]) = some E1 := by rw [ph oK1 (by simp [z4]), hE1]; rfl
    have w2 : Heap.write1 K2 ⟨h.length + 1, 0, some 0⟩ (str [114, 101, 99]) = some (K2.set (h.length + 1) (.cells [str wRec, .slice none 0 0, nilP, str []] 0 false)) := by rw [ph oK2 (by simp)]; rfl
    cases kr : (keyT (y4 P (i + 1)) == wRec)
    all_goals rw [kr] at hRk e2; rw [show (keyT (y4 P (i + 1)) == [114, 101, 99]) = _ from kr] at q2
    all_goals first | rw [if_neg Bool.false_ne_true] at hRk e2 | rw [if_pos rfl] at hRk e2
    · have L0 := zqe (h := h) false K2 (i + 1) e2 (mK1.trans m2') zK2 oK2 hRk
      simp only [xt, ya, zs, yl, zb, zx, zu, yb, zm, zc, zp, zo, zf, ze, zd, List.set_cons_succ, List.set_cons_zero, O_mv, yg, ye, List.map_cons, List.map_nil, zy, zk, w5, wo, yd, z8, xd, xi, yy, Nat.lt_add_one, List.cons_append, List.nil_append, List.length_cons, List.length_nil, Nat.reduceSub, Nat.zero_add, zn, yc, zz, za, slc, yq, xb, z7, zl, xc, zq, zj, zh, zg, List.append_assoc, List.length_append, List.append_nil, Nat.add_zero, List.getElem?_cons_zero, yj, wj, wm, ← hz, e0.r0, q1, w1, eK1.r0, q2]
      refine zi4 (LetI P h R false i) ?_ (P.L.length - (i + 1) + 1) _ ⟨K2, i + 1, by omega, junk rfl, L0⟩
      rintro m st ⟨K, k, hik, ⟨j, rfl⟩, s, vs, S, acc, rfl, eK, hz0, hz1, own, gs, hS, hb, mK, hacc, hg⟩
      obtain ⟨w, p, J1, J2, J3, b, a', n', c', J4, k3, x, a, r1, r2, r3, r4, r5, r6, r7, r8, r9, r10, r11, r12, r13⟩ := zpy e eK hz0 hz1 own gs hS hb mK hacc hg
      have lK := mK.le
      have lz := (List.getElem?_eq_some_iff.1 hz1).1
      have lJ1 := (List.getElem?_eq_some_iff.1 r2).1
      have lJ3 := (List.getElem?_eq_some_iff.1 r5).1
      have wr1 : Heap.write1 J1 ⟨K.length, 0, some 0⟩ (str w) = some (J1.set K.length (.cells [str w, .int .i64 0, nilP] 0 false)) := by rw [ph r2 (by simp)]; rfl
      have wr2 : Heap.write1 (J1.set K.length (.cells [str w, .int .i64 0, nilP] 0 false)) ⟨K.length, 1, some 0⟩ (.int .i64 p) = some (J1.set K.length (.cells [str w, .int .i64 p, nilP] 0 false)) := by rw [zha lJ1 (by simp)]; rfl
      have wr3 : Heap.write1 J3 ⟨K.length, 2, some 0⟩ (pt b) = some (J3.set K.length (.cells [str w, .int .i64 p, pt b] 0 false)) := by rw [ph r5 (by simp)]; rfl
      have rd1 : Heap.read1 (J3.set K.length (.cells [str w, .int .i64 p, pt b] 0 false)) ⟨h.length + 1, 1, some 0⟩ = some s := by rw [yb5 (by simp; omega), x5 r6]; rfl
      have rd2 : Heap.read (J3.set K.length (.cells [str w, .int .i64 p, pt b] 0 false)) ⟨K.length, 0, some 0⟩ 3 = some [str w, .int .i64 p, pt b] := fm lJ3 (by simp)
      obtain ⟨E, hE⟩ : ∃ E, E = J4.set (h.length + 1) (.cells [str (kwOf false), .slice a' n' c', nilP, str []] 0 false) := ⟨_, rfl⟩
      have wr4 : Heap.write1 J4 ⟨h.length + 1, 1, some 0⟩ (.slice a' n' c') = some E := by rw [ph r8 (by simp), hE]; rfl
      rw [← hE] at r9 r10 r11 r12 r13
      have row4 : ([str (kwOf false), .slice a' n' c', nilP, str []] : List Value).length = 4 := by simp
      rcases r13 with ⟨hx, hRb⟩ | ⟨rfl, rfl, hk3, S', g, g1, g2, g3, g4, g5⟩
      · have rd3 : Heap.read E ⟨h.length + 1, 0, some 0⟩ 4 = some [str (kwOf false), .slice a' n' c', nilP, str []] := zj8 r12 (by simp)
        have wr5 : Heap.write E ⟨h.length, 0, some 0⟩ [str (kwOf false), .slice a' n' c', nilP, str []] = some (E.set h.length (.cells [str (kwOf false), .slice a' n' c', nilP, str []] 0 false)) := zcx r11 (by simp [z4])
        have rd4 : Heap.read (E.set h.length (.cells [str (kwOf false), .slice a' n' c', nilP, str []] 0 false)) ⟨h.length, 0, some 0⟩ 4 = some [str (kwOf false), .slice a' n' c', nilP, str []] := fm (List.getElem?_eq_some_iff.1 r11).1 (by simp)
        simp only [ya, zs, xe, zb, zx, yb, zm, yf, zc, zp, wk, zo, zf, ze, zd, List.set_cons_succ, List.set_cons_zero, O_mv, y0, xg, yg, O_un, ye, List.map_cons, List.map_nil, zy, zk, xr, y5, w5, wo, yd, z8, xd, xi, vt, List.length_cons, List.length_nil, Nat.reduceAdd, Nat.zero_add, Bool.not_false, zn, yc, zz, za, y6, wd, zci, slc, jj, yq, xb, z7, xh, y7, zl, xc, xx, fv, qo, yu, z6, List.append_nil, Nat.add_zero, Option.map_some, List.getElem?_cons_zero, List.getElem?_cons_succ, eq_self, wj, Option.map_some, zau, jp, kf, r1, wr1, wr2, r3, r4, wr3, rd1, rd2, zi5, List.length_set, r7, wr4, fd r9 hx, rd3, wr5, rd4]
        have st := zxm e r9 r10 r12 hx hRb
        rw [e.finS (e.upd r9 (Nat.le_refl _) _) (r10.upd (Nat.le_refl _) _) _ (.inr hx)]
        exact st
      · obtain ⟨J5, q5, e5, m5⟩ := zh8 (r9.more [.cells [str wAnd] 0 false]) (m := wAnd) (by simp [wAnd]) (zl5 E wAnd)
        have m5' : Mv P E J5 := (Mv.add P E _).trans m5
        simp only [wAnd] at q5
        cases kw : (keyT (y4 P k3) == wAnd)
        · rw [kw, if_neg Bool.false_ne_true] at e5 g5
          rw [show (keyT (y4 P k3) == [97, 110, 100]) = false from kw] at q5
          have t11 := m5'.keep _ _ r11 (by omega) (by omega)
          have t12 := m5'.keep _ _ r12 (by omega) (by omega)
          have rd3 : Heap.read J5 ⟨h.length + 1, 0, some 0⟩ 4 = some [str (kwOf false), .slice a' n' c', nilP, str []] := zj8 t12 (by simp)
          have wr5 : Heap.write J5 ⟨h.length, 0, some 0⟩ [str (kwOf false), .slice a' n' c', nilP, str []] = some (J5.set h.length (.cells [str (kwOf false), .slice a' n' c', nilP, str []] 0 false)) := zcx t11 (by simp [z4])
          have rd4 : Heap.read (J5.set h.length (.cells [str (kwOf false), .slice a' n' c', nilP, str []] 0 false)) ⟨h.length, 0, some 0⟩ 4 = some [str (kwOf false), .slice a' n' c', nilP, str []] := fm (List.getElem?_eq_some_iff.1 t11).1 (by simp)
          simp only [ya, zs, xe, zb, zx, yb, zm, yf, zc, zp, y3, zo, zf, ze, zd, List.set_cons_succ, List.set_cons_zero, O_mv, y0, xg, yg, O_un, ye, List.map_cons, List.map_nil, zy, zk, xr, y5, w5, wo, yd, z8, xd, xi, yy, Nat.lt_add_one, vt, List.length_cons, List.length_nil, Nat.reduceAdd, Nat.zero_add, Bool.not_true, Bool.not_false, zn, yc, zz, za, y6, wd, zci, slc, jj, yq, xb, z7, xh, y7, zl, xc, xx, fv, qo, yu, z6, zq, zj, List.append_nil, Nat.add_zero, Option.map_some, List.getElem?_cons_zero, List.getElem?_cons_succ, eq_self, wj, Option.map_some, wm, zau, jp, kf, r1, wr1, wr2, r3, r4, wr3, rd1, rd2, zi5, List.length_set, r7, wr4, ok_0 r9, r9.r0, q5, rd3, wr5, rd4]
          rw [e.finS (e.upd e5 (Nat.le_refl _) _) ((r10.trans m5').upd (Nat.le_refl _) _) _ (.inl (by omega)), g5]
          have l5 := m5'.le
          refine ⟨_, k3, rfl, rfl, e.upd e5 (Nat.le_refl _) _, ⟨.slice a' n' c', vs ++ [pt b], S', rfl, ?_, ?_, ?_, ?_⟩, (r10.trans m5').upd (Nat.le_refl _) _⟩
          · exact (g1.sl.keep fun c hc o ho => by
              have := g4 c hc
              rw [List.getElem?_set_ne (by omega)]
              exact m5'.keep c o ho (by omega) (by omega))
          · exact g2.keep fun c o hc ho => by
              have := (g3 c hc).1
              rw [List.getElem?_set_ne (by omega)]
              exact m5'.keep c o ho (by omega) (by omega)
          · intro z hz
            obtain ⟨z1, z2, z3⟩ := g3 z hz
            exact ⟨⟨by omega, by rw [List.length_set]; omega⟩, z3⟩
          · intro b hb'
            have := g4 b hb'
            have := (g1.lt hb').2
            exact ⟨by omega, by rw [List.length_set]; omega⟩
        · rw [kw, if_pos rfl] at e5 g5
          rw [show (keyT (y4 P k3) == [97, 110, 100]) = true from kw] at q5
          simp only [ya, zs, yl, zb, zu, yb, zm, yf, zc, zp, y3, zo, zf, ze, zd, List.set_cons_succ, List.set_cons_zero, O_mv, y0, xg, yg, O_un, ye, List.map_cons, List.map_nil, zy, zk, xr, y5, w5, wo, yd, z8, xd, xi, yy, Nat.lt_add_one, vt, List.length_cons, List.length_nil, Nat.reduceAdd, Nat.zero_add, Bool.not_true, zn, yc, zz, za, zi, vq, slc, jj, yq, xb, z7, xh, y7, zl, xc, xx, fv, qo, zq, zj, List.append_nil, Nat.add_zero, Option.map_some, List.getElem?_cons_zero, List.getElem?_cons_succ, wj, Option.map_some, wm, r1, wr1, wr2, r3, r4, wr3, rd1, rd2, zi5, List.length_set, r7, wr4, ok_0 r9, r9.r0, q5]
          have hk3l := znu (by simp [wAnd]) kw
          have l5 := m5'.le
          refine ⟨P.L.length - (k3 + 1) + 1, by omega, J5, k3 + 1, by omega, junk rfl, .slice a' n' c', _, S', acc ++ [g], rfl, e5, m5'.keep _ _ r11 (by omega) (by omega), m5'.keep _ _ r12 (by omega) (by omega), g1.keep fun c hc o ho => m5'.keep c o ho (by have := g4 c hc; omega) (by have := g4 c hc; omega), g2.keep fun c o hc ho => m5'.keep c o ho (by have := (g3 c hc).1; omega) (by have := (g3 c hc).1; omega), ?_, g4, r10.trans m5', by simp; omega, g5⟩
          intro z hz
          obtain ⟨z1, z2, z3⟩ := g3 z hz
          exact ⟨z1, by omega, z3⟩
    · have L0 := zqe (h := h) true (K2.set (h.length + 1) (.cells [str wRec, .slice none 0 0, nilP, str []] 0 false)) (i + 1 + 1) (e.upd e2 (by omega) _) ((mK1.trans m2').upd (by omega) _) (by rw [List.getElem?_set_ne (by omega)]; exact zK2) (by rw [List.getElem?_set_self hlK2]; rfl) hRk
      simp only [xt, ya, zs, zb, zx, yb, zm, zc, zp, zo, zf, ze, zd, List.set_cons_succ, List.set_cons_zero, O_mv, yg, ye, List.map_cons, List.map_nil, zy, zk, w5, wo, yd, z8, xd, xi, yy, Nat.lt_add_one, List.cons_append, List.nil_append, List.length_cons, List.length_nil, Nat.reduceSub, Nat.zero_add, zn, yc, zz, za, slc, yq, xb, z7, zl, xc, zq, zj, zh, zg, List.append_assoc, List.length_append, List.append_nil, Nat.add_zero, List.getElem?_cons_zero, yj, wj, wm, ← hz, e0.r0, q1, w1, eK1.r0, q2, w2]
      refine zi4 (LetI P h R true i) ?_ (P.L.length - (i + 1 + 1) + 1) _ ⟨_, i + 1 + 1, by omega, junk rfl, L0⟩
      rintro m st ⟨K, k, hik, ⟨j, rfl⟩, s, vs, S, acc, rfl, eK, hz0, hz1, own, gs, hS, hb, mK, hacc, hg⟩
      obtain ⟨w, p, J1, J2, J3, b, a', n', c', J4, k3, x, a, r1, r2, r3, r4, r5, r6, r7, r8, r9, r10, r11, r12, r13⟩ := zpy e eK hz0 hz1 own gs hS hb mK hacc hg
      have lK := mK.le
      have lz := (List.getElem?_eq_some_iff.1 hz1).1
      have lJ1 := (List.getElem?_eq_some_iff.1 r2).1
      have lJ3 := (List.getElem?_eq_some_iff.1 r5).1
      have wr1 : Heap.write1 J1 ⟨K.length, 0, some 0⟩ (str w) = some (J1.set K.length (.cells [str w, .int .i64 0, nilP] 0 false)) := by rw [ph r2 (by simp)]; rfl
      have wr2 : Heap.write1 (J1.set K.length (.cells [str w, .int .i64 0, nilP] 0 false)) ⟨K.length, 1, some 0⟩ (.int .i64 p) = some (J1.set K.length (.cells [str w, .int .i64 p, nilP] 0 false)) := by rw [zha lJ1 (by simp)]; rfl
      have wr3 : Heap.write1 J3 ⟨K.length, 2, some 0⟩ (pt b) = some (J3.set K.length (.cells [str w, .int .i64 p, pt b] 0 false)) := by rw [ph r5 (by simp)]; rfl
      have rd1 : Heap.read1 (J3.set K.length (.cells [str w, .int .i64 p, pt b] 0 false)) ⟨h.length + 1, 1, some 0⟩ = some s := by rw [yb5 (by simp; omega), x5 r6]; rfl
      have rd2 : Heap.read (J3.set K.length (.cells [str w, .int .i64 p, pt b] 0 false)) ⟨K.length, 0, some 0⟩ 3 = some [str w, .int .i64 p, pt b] := fm lJ3 (by simp)
      obtain ⟨E, hE⟩ : ∃ E, E = J4.set (h.length + 1) (.cells [str (kwOf true), .slice a' n' c', nilP, str []] 0 false) := ⟨_, rfl⟩
      have wr4 : Heap.write1 J4 ⟨h.length + 1, 1, some 0⟩ (.slice a' n' c') = some E := by rw [ph r8 (by simp), hE]; rfl
      rw [← hE] at r9 r10 r11 r12 r13
      have row4 : ([str (kwOf true), .slice a' n' c', nilP, str []] : List Value).length = 4 := by simp
      rcases r13 with ⟨hx, hRb⟩ | ⟨rfl, rfl, hk3, S', g, g1, g2, g3, g4, g5⟩
      · have rd3 : Heap.read E ⟨h.length + 1, 0, some 0⟩ 4 = some [str (kwOf true), .slice a' n' c', nilP, str []] := zj8 r12 (by simp)
        have wr5 : Heap.write E ⟨h.length, 0, some 0⟩ [str (kwOf true), .slice a' n' c', nilP, str []] = some (E.set h.length (.cells [str (kwOf true), .slice a' n' c', nilP, str []] 0 false)) := zcx r11 (by simp [z4])
        have rd4 : Heap.read (E.set h.length (.cells [str (kwOf true), .slice a' n' c', nilP, str []] 0 false)) ⟨h.length, 0, some 0⟩ 4 = some [str (kwOf true), .slice a' n' c', nilP, str []] := fm (List.getElem?_eq_some_iff.1 r11).1 (by simp)
        simp only [ya, zs, xe, zb, zx, yb, zm, yf, zc, zp, wk, zo, zf, ze, zd, List.set_cons_succ, List.set_cons_zero, O_mv, y0, xg, yg, O_un, ye, List.map_cons, List.map_nil, zy, zk, xr, y5, w5, wo, yd, z8, xd, xi, vt, List.length_cons, List.length_nil, Nat.reduceAdd, Nat.zero_add, Bool.not_false, zn, yc, zz, za, y6, wd, zci, slc, jj, yq, xb, z7, xh, y7, zl, xc, xx, fv, qo, yu, z6, List.append_nil, Nat.add_zero, Option.map_some, List.getElem?_cons_zero, List.getElem?_cons_succ, eq_self, wj, Option.map_some, zau, jp, kf, r1, wr1, wr2, r3, r4, wr3, rd1, rd2, zi5, List.length_set, r7, wr4, fd r9 hx, rd3, wr5, rd4]
        have st := zxm e r9 r10 r12 hx hRb
        rw [e.finS (e.upd r9 (Nat.le_refl _) _) (r10.upd (Nat.le_refl _) _) _ (.inr hx)]
        exact st
      · obtain ⟨J5, q5, e5, m5⟩ := zh8 (r9.more [.cells [str wAnd] 0 false]) (m := wAnd) (by simp [wAnd]) (zl5 E wAnd)
        have m5' : Mv P E J5 := (Mv.add P E _).trans m5
        simp only [wAnd] at q5
        cases kw : (keyT (y4 P k3) == wAnd)
        · rw [kw, if_neg Bool.false_ne_true] at e5 g5
          rw [show (keyT (y4 P k3) == [97, 110, 100]) = false from kw] at q5
          have t11 := m5'.keep _ _ r11 (by omega) (by omega)
          have t12 := m5'.keep _ _ r12 (by omega) (by omega)
          have rd3 : Heap.read J5 ⟨h.length + 1, 0, some 0⟩ 4 = some [str (kwOf true), .slice a' n' c', nilP, str []] := zj8 t12 (by simp)
          have wr5 : Heap.write J5 ⟨h.length, 0, some 0⟩ [str (kwOf true), .slice a' n' c', nilP, str []] = some (J5.set h.length (.cells [str (kwOf true), .slice a' n' c', nilP, str []] 0 false)) := zcx t11 (by simp [z4])
          have rd4 : Heap.read (J5.set h.length (.cells [str (kwOf true), .slice a' n' c', nilP, str []] 0 false)) ⟨h.length, 0, some 0⟩ 4 = some [str (kwOf true), .slice a' n' c', nilP, str []] := fm (List.getElem?_eq_some_iff.1 t11).1 (by simp)
          simp only [ya, zs, xe, zb, zx, yb, zm, yf, zc, zp, y3, zo, zf, ze, zd, List.set_cons_succ, List.set_cons_zero, O_mv, y0, xg, yg, O_un, ye, List.map_cons, List.map_nil, zy, zk, xr, y5, w5, wo, yd, z8, xd, xi, yy, Nat.lt_add_one, vt, List.length_cons, List.length_nil, Nat.reduceAdd, Nat.zero_add, Bool.not_true, Bool.not_false, zn, yc, zz, za, y6, wd, zci, slc, jj, yq, xb, z7, xh, y7, zl, xc, xx, fv, qo, yu, z6, zq, zj, List.append_nil, Nat.add_zero, Option.map_some, List.getElem?_cons_zero, List.getElem?_cons_succ, eq_self, wj, Option.map_some, wm, zau, jp, kf, r1, wr1, wr2, r3, r4, wr3, rd1, rd2, zi5, List.length_set, r7, wr4, ok_0 r9, r9.r0, q5, rd3, wr5, rd4]
          rw [e.finS (e.upd e5 (Nat.le_refl _) _) ((r10.trans m5').upd (Nat.le_refl _) _) _ (.inl (by omega)), g5]
          have l5 := m5'.le
          refine ⟨_, k3, rfl, rfl, e.upd e5 (Nat.le_refl _) _, ⟨.slice a' n' c', vs ++ [pt b], S', rfl, ?_, ?_, ?_, ?_⟩, (r10.trans m5').upd (Nat.le_refl _) _⟩
          · exact (g1.sl.keep fun c hc o ho => by
              have := g4 c hc
              rw [List.getElem?_set_ne (by omega)]
              exact m5'.keep c o ho (by omega) (by omega))
          · exact g2.keep fun c o hc ho => by
              have := (g3 c hc).1
              rw [List.getElem?_set_ne (by omega)]
              exact m5'.keep c o ho (by omega) (by omega)
          · intro z hz
            obtain ⟨z1, z2, z3⟩ := g3 z hz
            exact ⟨⟨by omega, by rw [List.length_set]; omega⟩, z3⟩
          · intro b hb'
            have := g4 b hb'
            have := (g1.lt hb').2
            exact ⟨by omega, by rw [List.length_set]; omega⟩
        · rw [kw, if_pos rfl] at e5 g5
          rw [show (keyT (y4 P k3) == [97, 110, 100]) = true from kw] at q5
          simp only [ya, zs, yl, zb, zu, yb, zm, yf, zc, zp, y3, zo, zf, ze, zd, List.set_cons_succ, List.set_cons_zero, O_mv, y0, xg, yg, O_un, ye, List.map_cons, List.map_nil, zy, zk, xr, y5, w5, wo, yd, z8, xd, xi, yy, Nat.lt_add_one, vt, List.length_cons, List.length_nil, Nat.reduceAdd, Nat.zero_add, Bool.not_true, zn, yc, zz, za, zi, vq, slc, jj, yq, xb, z7, xh, y7, zl, xc, xx, fv, qo, zq, zj, List.append_nil, Nat.add_zero, Option.map_some, List.getElem?_cons_zero, List.getElem?_cons_succ, wj, Option.map_some, wm, r1, wr1, wr2, r3, r4, wr3, rd1, rd2, zi5, List.length_set, r7, wr4, ok_0 r9, r9.r0, q5]
          have hk3l := znu (by simp [wAnd]) kw
          have l5 := m5'.le
          refine ⟨P.L.length - (k3 + 1) + 1, by omega, J5, k3 + 1, by omega, junk rfl, .slice a' n' c', _, S', acc ++ [g], rfl, e5, m5'.keep _ _ r11 (by omega) (by omega), m5'.keep _ _ r12 (by omega) (by omega), g1.keep fun c hc o ho => m5'.keep c o ho (by have := g4 c hc; omega) (by have := g4 c hc; omega), g2.keep fun c o hc ho => m5'.keep c o ho (by have := (g3 c hc).1; omega) (by have := (g3 c hc).1; omega), ?_, g4, r10.trans m5', by simp; omega, g5⟩
          intro z hz
          obtain ⟨z1, z2, z3⟩ := g3 z hz
          exact ⟨z1, by omega, z3⟩
end Go.Proofs.YtljdbheclfaloaaGreatDoor.AM
namespace Go.Proofs.YtljdbheclfaloaaGreatDoor.AM
open Go.RowKit
set_option linter.unusedSimpArgs false
set_option linter.unusedVariables false

section
variable {call : qd} (ρ : Operand → Value) (h : Heap)
def zpd (h : Heap) (kk : EqK) (z : Value) (ok : Bool) (m k : Value) : Option (Value × Heap) :=
  match (if zee kk k then zkg h kk k m else none) with
  | some (some v) => some (if ok then tup [v, .bool true] else v, h)
  | some none => some (if ok then tup [z, .bool false] else z, h)
  | none => none
theorem gc (kk : EqK) (z : Value) (m k : Operand) (ok : Bool) : evOp call ρ h (.lookup kk z m k ok) = zpd h kk z ok (ρ m) (ρ k) := rfl
def updO (h : Heap) (kk : EqK) : Value → Value → Value → Option (Value × Heap)
  | .map (some b), k, v => match h[b]? with
    | some (.map es) => if zee kk k then (py kk k v es).map fun es' => (undef, h.set b (.map es')) else none
    | _ => none
  | _, _, _ => none
theorem f5 (kk : EqK) (m k v : Operand) : evOp call ρ h (.update kk m k v) = updO h kk (ρ m) (ρ k) (ρ v) := by
  simp only [evOp]; generalize ρ m = x
  cases x <;> try rfl
  rename_i b
  cases b <;> rfl
theorem ze7 : evOp call ρ h .mkMap = some (.map (some h.length), h ++ [.map []]) := rfl
theorem ybt (z : Value) (ok : Bool) (w : Bys) : zpd h .str z ok (.map none) (str w) = some (if ok then tup [z, .bool false] else z, h) := rfl
def zg9 (z : Value) (ok : Bool) : Option Value → Value
  | some v => if ok then tup [v, .bool true] else v
  | none => if ok then tup [z, .bool false] else z
theorem zfr {b : Nat} {es : List (Value × Value)} (e : h[b]? = some (.map es)) (z : Value) (ok : Bool) {w : Bys} {r : Option Value} (hf : findKey .str (str w) es = some r) : zpd h .str z ok (.map (some b)) (str w) = some (zg9 z ok r, h) := by
  have hk : zee .str (str w) = true := rfl
  simp only [zpd, hk, if_true, zkg, e, hf]
  cases r <;> rfl
theorem zmq {b : Nat} {es es' : List (Value × Value)} (e : h[b]? = some (.map es)) {w : Bys} {v : Value} (hs : py .str (str w) v es = some es') : updO h .str (.map (some b)) (str w) v = some (undef, h.set b (.map es')) := by
  have hk : zee .str (str w) = true := rfl
  simp only [updO, e, hk, if_true, hs, Option.map_some]
end
theorem zov {α : Type} (f : α → Value) (w : Bys) : ∀ l : List (Bys × α), findKey .str (str w) (l.map fun p => (str p.1, f p.2)) = some ((l.find? fun p => w == p.1).map fun p => f p.2)
  | [] => rfl
  | (k, a) :: l => by
    rw [List.map_cons, findKey, zm0, List.find?_cons]
    simp only
    cases (w == k)
    · exact zov f w l
    · rfl
theorem zr5 {α : Type} (f : α → Value) (w : Bys) (a : α) : ∀ l : List (Bys × α), (l.find? fun p => w == p.1) = none → py .str (str w) (f a) (l.map fun p => (str p.1, f p.2)) = some ((l ++ [(w, a)]).map fun p => (str p.1, f p.2))
  | [], h => rfl
  | (k, b) :: l, h => by
    rw [List.find?_cons] at h
    rw [List.map_cons, py, zm0]
    cases hk : (w == k)
    · rw [hk] at h
      simp only at h ⊢
      rw [zr5 f w a l h]; rfl
    · rw [hk] at h; cases h
theorem zga (kn : Kn) (w : Bys) : jg kn w = (kn.find? fun p => w == p.1).map (·.2) := by
  induction kn with
  | nil => rfl
  | cons p r ih =>
    obtain ⟨v, s⟩ := p
    rw [jg, List.find?_cons]
    simp only
    cases hk : (w == v)
    · simp only [Bool.false_eq_true, if_false]; exact ih
    · simp
theorem ydo : (([110, 97, 109, 101] : Bys) == [92]) = false := rfl
theorem ydl : (([124] : Bys) == [110, 97, 109, 101]) = false := rfl
theorem zxt : (([124] : Bys) == [92]) = false := rfl
theorem yfo : (([124] : Bys) == [40]) = false := rfl
theorem ydg : (([38] : Bys) == [110, 97, 109, 101]) = false := rfl
theorem ydc : (([38] : Bys) == [124]) = false := rfl
theorem zyz : (([38] : Bys) == [92]) = false := rfl
theorem yfp : (([38] : Bys) == [40]) = false := rfl
theorem ydq : (([92] : Bys) == [110, 97, 109, 101]) = false := rfl
theorem ydi : (([92] : Bys) == [124]) = false := rfl
theorem yd0 : (([92] : Bys) == [38]) = false := rfl
theorem yf2 : (([92] : Bys) == [40]) = false := rfl
theorem ydx : (([59] : Bys) == [110, 97, 109, 101]) = false := rfl
theorem ydt : (([59] : Bys) == [124]) = false := rfl
theorem yc3 : (([59] : Bys) == [38]) = false := rfl
theorem zud : (([59] : Bys) == [92]) = false := rfl
theorem ygq : (([59] : Bys) == [40]) = false := rfl
theorem ydu : (([120] : Bys) == [110, 97, 109, 101]) = false := rfl
theorem ydh : (([120] : Bys) == [124]) = false := rfl
theorem yc6 : (([120] : Bys) == [38]) = false := rfl
theorem zu2 : (([120] : Bys) == [92]) = false := rfl
theorem ydv : (([120] : Bys) == [59]) = false := rfl
theorem yf9 : (([120] : Bys) == [40]) = false := rfl
theorem zpk : (([91] : Bys) == [110, 97, 109, 101]) = false := rfl
theorem zq5 : (([91] : Bys) == [124]) = false := rfl
theorem zqp : (([91] : Bys) == [38]) = false := rfl
theorem zm2 : (([91] : Bys) == [92]) = false := rfl
theorem zqz : (([91] : Bys) == [59]) = false := rfl
theorem zqb : (([91] : Bys) == [120]) = false := rfl
theorem ygc : (([91] : Bys) == [40]) = false := rfl
theorem yan : (([40] : Bys) == [110, 97, 109, 101]) = false := rfl
theorem yde : (([40] : Bys) == [124]) = false := rfl
theorem yc4 : (([40] : Bys) == [38]) = false := rfl
theorem zxx : (([40] : Bys) == [92]) = false := rfl
theorem yc5 : (([40] : Bys) == [59]) = false := rfl
theorem ydj : (([40] : Bys) == [120]) = false := rfl
theorem ydz : (([40] : Bys) == [91]) = false := rfl
theorem zyx : (([43] : Bys) == [110, 97, 109, 101]) = false := rfl
theorem zxd : (([43] : Bys) == [124]) = false := rfl
theorem yaf : (([43] : Bys) == [38]) = false := rfl
theorem ztr : (([43] : Bys) == [92]) = false := rfl
theorem yao : (([43] : Bys) == [59]) = false := rfl
theorem zx2 : (([43] : Bys) == [120]) = false := rfl
theorem zy3 : (([43] : Bys) == [91]) = false := rfl
theorem zxj : (([43] : Bys) == [40]) = false := rfl
theorem yaa : (([42] : Bys) == [110, 97, 109, 101]) = false := rfl
theorem zz6 : (([42] : Bys) == [124]) = false := rfl
theorem zw9 : (([42] : Bys) == [38]) = false := rfl
theorem zuz : (([42] : Bys) == [92]) = false := rfl
theorem zzx : (([42] : Bys) == [59]) = false := rfl
theorem zy0 : (([42] : Bys) == [120]) = false := rfl
theorem zwv : (([42] : Bys) == [91]) = false := rfl
theorem zxi : (([42] : Bys) == [40]) = false := rfl
theorem zw4 : (([42] : Bys) == [43]) = false := rfl
theorem zr6 : (([63] : Bys) == [110, 97, 109, 101]) = false := rfl
theorem zs9 : (([63] : Bys) == [124]) = false := rfl
theorem zsy : (([63] : Bys) == [38]) = false := rfl
theorem zo4 : (([63] : Bys) == [92]) = false := rfl
theorem zrq : (([63] : Bys) == [59]) = false := rfl
theorem zto : (([63] : Bys) == [120]) = false := rfl
theorem zrh : (([63] : Bys) == [91]) = false := rfl
theorem zsi : (([63] : Bys) == [40]) = false := rfl
theorem zre : (([63] : Bys) == [43]) = false := rfl
theorem zrt : (([63] : Bys) == [42]) = false := rfl
theorem ztn : (([94] : Bys) == [110, 97, 109, 101]) = false := rfl
theorem zrv : (([94] : Bys) == [124]) = false := rfl
theorem zr8 : (([94] : Bys) == [38]) = false := rfl
theorem zok : (([94] : Bys) == [92]) = false := rfl
theorem zsk : (([94] : Bys) == [59]) = false := rfl
theorem zri : (([94] : Bys) == [120]) = false := rfl
theorem zr2 : (([94] : Bys) == [91]) = false := rfl
theorem zs4 : (([94] : Bys) == [40]) = false := rfl
theorem ztd : (([94] : Bys) == [43]) = false := rfl
theorem zs3 : (([94] : Bys) == [42]) = false := rfl
theorem zn4 : (([94] : Bys) == [63]) = false := rfl
theorem zrj : (([48] : Bys) == [110, 97, 109, 101]) = false := rfl
theorem zro : (([48] : Bys) == [124]) = false := rfl
theorem zsc : (([48] : Bys) == [38]) = false := rfl
theorem zs2 : (([48] : Bys) == [92]) = false := rfl
theorem zr4 : (([48] : Bys) == [59]) = false := rfl
theorem zsb : (([48] : Bys) == [120]) = false := rfl
theorem zsj : (([48] : Bys) == [91]) = false := rfl
theorem zrr : (([48] : Bys) == [40]) = false := rfl
theorem zsf : (([48] : Bys) == [43]) = false := rfl
theorem zsw : (([48] : Bys) == [42]) = false := rfl
theorem zol : (([48] : Bys) == [63]) = false := rfl
theorem zop : (([48] : Bys) == [94]) = false := rfl
end Go.Proofs.YtljdbheclfaloaaGreatDoor.AM
namespace Go.Proofs.YtljdbheclfaloaaGreatDoor.AM
open Go.RowKit
set_option linter.unusedSimpArgs false
set_option linter.unusedVariables false

def knE (kn : Kn) : List (Value × Value) := kn.map fun p => (str p.1, .bool p.2)
def rcE (rc : List Bys) : List (Value × Value) := (rc.map fun w => (w, ())).map fun p => (str p.1, .bool true)
theorem ztg (kn : Kn) (w : Bys) : findKey .str (str w) (knE kn) = some ((jg kn w).map Value.bool) := by
  rw [knE, zov (fun b => Value.bool b), zga, Option.map_map]; rfl
theorem zob (w : Bys) : ∀ rc : List Bys, ((rc.map fun w => (w, ())).find? fun p => w == p.1) = if rc.contains w then some (w, ()) else none
  | [] => rfl
  | v :: r => by
    rw [List.map_cons, List.find?_cons, List.contains_cons]
    cases hv : (w == v)
    · simp only [Bool.false_or]; exact zob w r
    · rw [← eq_of_beq hv]; simp
theorem zzu (rc : List Bys) (w : Bys) : findKey .str (str w) (rcE rc) = some (if rc.contains w then some (.bool true) else none) := by
  rw [rcE, zov (fun _ => Value.bool true), zob]
  cases rc.contains w <;> rfl
structure Ch (P : RP) (h : Heap) (q km : Nat) (rm : Value) (n : Nat) (kn : Kn) (rc : List Bys) : Prop where
  cq : h[q]? = some (.cells [pt P.r, .map (some km), rm, .int .i64 (n : Int)] 0 false)
  ck : h[km]? = some (.map (knE kn))
  cr : (rm = .map none ∧ rc = []) ∨ ∃ b, rm = .map (some b) ∧ h[b]? = some (.map (rcE rc))
structure Kp (P : RP) (S : Nat → Prop) (h h' : Heap) : Prop where
  keep : ∀ (b : Nat) (o : AObj), h[b]? = some o → ¬ S b → b ≠ P.r → h'[b]? = some o
  le : h.length ≤ h'.length
theorem Kp.refl (P : RP) (S : Nat → Prop) (h : Heap) : Kp P S h h := ⟨fun _ _ e _ _ => e, Nat.le_refl _⟩
theorem Kp.trans {P : RP} {S S' : Nat → Prop} {h h' h'' : Heap} (a : Kp P S h h') (b : Kp P S' h' h'') : Kp P (fun z => S z ∨ S' z) h h'' :=
  ⟨fun x o e n1 n2 => b.keep x o (a.keep x o e (fun hh => n1 (.inl hh)) n2) (fun hh => n1 (.inr hh)) n2, Nat.le_trans a.le b.le⟩
theorem Kp.weak {P : RP} {S S' : Nat → Prop} {h h' : Heap} (a : Kp P S h h') (hs : ∀ z, S z → S' z) : Kp P S' h h' := ⟨fun b o e n1 n2 => a.keep b o e (fun hh => n1 (hs b hh)) n2, a.le⟩
theorem Kp.add (P : RP) (S : Nat → Prop) (h L : Heap) : Kp P S h (h ++ L) := ⟨fun b o e _ _ => y8 L e, by simp⟩
theorem Mv.kp {P : RP} {h h' : Heap} (m : Mv P h h') (hc : ∀ o, h[P.c]? = some o → h'[P.c]? = some o) : Kp P (fun _ => False) h h' := ⟨fun b o e _ n2 => by
  by_cases hb : b = P.c
  · subst hb; exact hc o e
  · exact m.keep b o e n2 hb, m.le⟩
structure Cl (P : RP) (hb : Heap) (q km : Nat) (rm : Value) (S : Nat → Prop) : Prop where
  lo : ∀ z, S z → hb.length ≤ z
  q : ¬ S q
  k : ¬ S km
  r : ∀ b, rm = .map (some b) → ¬ S b
theorem Cl.weak {P : RP} {hb : Heap} {q km : Nat} {rm : Value} {S S' : Nat → Prop} (c : Cl P hb q km rm S) (hs : ∀ z, S' z → S z) : Cl P hb q km rm S' :=
  ⟨fun z hz => c.lo z (hs z hz), fun h => c.q (hs _ h), fun h => c.k (hs _ h), fun b hb h => c.r b hb (hs _ h)⟩
theorem Ch.kp {P : RP} {h h' : Heap} {q km n i d x a : Nat} {rm : Value} {kn : Kn} {rc : List Bys} {S : Nat → Prop} (c : Ch P h q km rm n kn rc) (e : Rd P h i d x a) (k : Kp P S h h') (hq : ¬ S q) (hk : ¬ S km) (hr : ∀ b, rm = .map (some b) → ¬ S b) : Ch P h' q km rm n kn rc := by
  have n1 : q ≠ P.r := by
    rintro rfl
    have := e.hr.symm.trans c.cq
    simp at this
  have n2 : km ≠ P.r := by
    rintro rfl
    have := e.hr.symm.trans c.ck
    simp at this
  refine ⟨k.keep _ _ c.cq hq n1, k.keep _ _ c.ck hk n2, ?_⟩
  rcases c.cr with h1 | ⟨b, h1, h2⟩
  · exact .inl h1
  · refine .inr ⟨b, h1, k.keep _ _ h2 (hr b h1) ?_⟩
    rintro rfl
    have := e.hr.symm.trans h2
    simp at this
section
variable {P : RP} {h : Heap} {i d x a q bb : Nat} {km rm nn : Value}
theorem p8 : qv .ptr (.pointer none) (.pointer none) = some true := rfl
theorem xn (p : Addr) : qv .ptr (.pointer (some p)) (.pointer none) = some false := rfl
set_option maxRecDepth 10000 in
theorem zfv (e : Rd P h i d x a) (rt : Bool) : DF FF xm [pt q, nilP, .bool rt] h = some (tup [], h) := by
  have : ∃ v h', DF FF xm [pt q, nilP, .bool rt] h = some (v, h') ∧ (v = tup [] ∧ h' = h) := by
    refine ww qa ?_
    simp only [yw, ya, zs, xe, zb, zx, yb, zm, yf, zc, wk, zo, zf, ze, zd, List.set_cons_succ, List.set_cons_zero, O_mv, y0, xg, List.cons_append, List.nil_append, List.length_cons, List.length_nil, Nat.reduceAdd, Nat.reduceSub, Nat.zero_add, zn, yc, za, y6, w9, zh, zg, Bool.bne_false, jm, eq_self, zt, yj, laid, p8, xp, zt, zeo, yfs]
    exact ⟨trivial, trivial⟩
  obtain ⟨v, h', r, rfl, rfl⟩ := this
  exact r
set_option maxRecDepth 10000 in
theorem zty (e : Rd P h i d x a) (hx : x ≠ 0) (hq : h[q]? = some (.cells [pt P.r, km, rm, nn] 0 false)) (b : Nat) (rt : Bool) : DF FF xm [pt q, pt b, .bool rt] h = some (tup [], h) := by
  have : ∃ v h', DF FF xm [pt q, pt b, .bool rt] h = some (v, h') ∧ (v = tup [] ∧ h' = h) := by
    refine ww qa ?_
    have rq : ∀ L j, Heap.read1 (h ++ L) ⟨q, j, some 0⟩ = ([pt P.r, km, rm, nn] : List Value)[j]? := fun L j => x5 (y8 L hq)
    simp only [yw, ya, zs, xe, zb, zx, yb, zm, yf, zc, y3, zo, zf, ze, zd, List.set_cons_succ, List.set_cons_zero, O_mv, y0, xg, yg, O_un, ye, List.map_cons, List.map_nil, zy, zk, vt, List.cons_append, List.nil_append, List.length_cons, List.length_nil, Nat.reduceAdd, Nat.reduceSub, Nat.zero_add, Bool.not_false, zn, yc, za, y6, w9, xb, z7, zq, zj, yr, yo, zh, zg, Nat.add_zero, List.getElem?_cons_zero, Bool.bne_false, jm, eq_self, zt, yj, laid, xn, xp, zt, rq, fd (e.more _) hx, zeo, yfs]
    exact ⟨trivial, trivial⟩
  obtain ⟨v, h', r, rfl, rfl⟩ := this
  exact r
theorem zos {b : Nat} {op w : Bys} {p : Nat} {l r : Value} {s : Bool} (hb : h[b]? = some (.cells (vh op w p l r s) 0 false)) : DF FF wi [pt b, .bool s, pt bb] h = some (tup [], h) := by
  have : ∃ v h', DF FF wi [pt b, .bool s, pt bb] h = some (v, h') ∧ (v = tup [] ∧ h' = h) := by
    refine ww pd ?_
    have rb : Heap.read1 h ⟨b, 5, some 0⟩ = some (.bool s) := x5 hb
    simp only [gz, ya, zs, yl, zb, zu, yb, zm, zc, zo, ze, zd, List.set_cons_succ, List.set_cons_zero, O_mv, yg, zy, zk, List.cons_append, List.nil_append, List.length_cons, List.length_nil, Nat.reduceAdd, Nat.reduceSub, Nat.zero_add, zn, yc, za, xb, z7, zq, zj, zh, zg, wt, beq_self_eq_true, jm, zhv, eq_self, rb, bne_self_eq_false, wn, wt]
    exact ⟨trivial, trivial⟩
  obtain ⟨v, h', r, rfl, rfl⟩ := this
  exact r
theorem zof (e : Rd P h i d 0 a) (hq : h[q]? = some (.cells [pt P.r, km, rm, nn] 0 false)) (hbb : h[bb]? = some (.cells [pt q] 0 false)) {b : Nat} {op w : Bys} {p : Nat} {l r : Value} {s t : Bool} (hb : h[b]? = some (.cells (vh op w p l r s) 0 false)) (hst : (s == t) = false) :
    ∃ h', DF FF wi [pt b, .bool t, pt bb] h = some (tup [], h') ∧ Rd P h' i d 41 p ∧ Mv P h h' ∧ h'[P.c]? = h[P.c]? := by
  have : ∃ v h', DF FF wi [pt b, .bool t, pt bb] h = some (v, h') ∧ (v = tup [] ∧ Rd P h' i d 41 p ∧ Mv P h h' ∧ h'[P.c]? = h[P.c]?) := by
    refine ww pd ?_
    have rb : ∀ j, Heap.read1 h ⟨b, j, some 0⟩ = (vh op w p l r s)[j]? := fun j => x5 hb
    have rq : ∀ j, Heap.read1 h ⟨q, j, some 0⟩ = ([pt P.r, km, rm, nn] : List Value)[j]? := fun j => x5 hq
    have rbb : Heap.read1 h ⟨bb, 0, some 0⟩ = some (pt q) := x5 hbb
    have n5 : (vh op w p l r s)[5]? = some (.bool s) := rfl
    obtain ⟨h', f, e', m⟩ := zjr e 41 p (by omega)
    simp only [Int.cast_ofNat_Int] at f
    simp only [gz, ya, zs, zb, zx, yb, zm, zc, zo, zf, ze, zd, List.set_cons_succ, List.set_cons_zero, O_mv, yg, ye, List.map_cons, List.map_nil, zy, zk, List.cons_append, List.nil_append, List.length_cons, List.length_nil, Nat.reduceAdd, Nat.reduceSub, Nat.zero_add, Bool.not_false, zn, yc, za, xb, z7, zq, zj, zh, zg, Nat.add_zero, List.getElem?_cons_zero, Bool.bne_true, jm, zhv, eq_self, rb, n5, bd, hst, rq, rbb, f, wn]
    rw [e.fin e' m (tup []) (.inr (.inr (.inl (by omega))))]
    exact ⟨trivial, e', m, by rw [e'.hc, e.hc]⟩
  obtain ⟨v, h', r, rfl, e', m, hc⟩ := this
  exact ⟨h', r, e', m, hc⟩
theorem ye9 (e : Rd P h i d x a) (hx : x ≠ 0) (hq : h[q]? = some (.cells [pt P.r, km, rm, nn] 0 false)) (hbb : h[bb]? = some (.cells [pt q] 0 false)) {b : Nat} {op w : Bys} {p : Nat} {l r : Value} {s : Bool} (t : Bool) (hb : h[b]? = some (.cells (vh op w p l r s) 0 false)) :
    DF FF wi [pt b, .bool t, pt bb] h = some (tup [], h) := by
  cases hst : (s == t)
  · have : ∃ v h', DF FF wi [pt b, .bool t, pt bb] h = some (v, h') ∧ (v = tup [] ∧ h' = h) := by
      refine ww pd ?_
      have rb : ∀ j, Heap.read1 h ⟨b, j, some 0⟩ = (vh op w p l r s)[j]? := fun j => x5 hb
      have rq : ∀ j, Heap.read1 h ⟨q, j, some 0⟩ = ([pt P.r, km, rm, nn] : List Value)[j]? := fun j => x5 hq
      have rbb : Heap.read1 h ⟨bb, 0, some 0⟩ = some (pt q) := x5 hbb
      have n5 : (vh op w p l r s)[5]? = some (.bool s) := rfl
      simp only [gz, ya, zs, zb, zx, yb, zm, zc, zo, zf, ze, zd, List.set_cons_succ, List.set_cons_zero, O_mv, yg, ye, List.map_cons, List.map_nil, zy, zk, List.cons_append, List.nil_append, List.length_cons, List.length_nil, Nat.reduceAdd, Nat.reduceSub, Nat.zero_add, Bool.not_false, zn, yc, za, xb, z7, zq, zj, zh, zg, Nat.add_zero, List.getElem?_cons_zero, wt, Bool.bne_true, jm, zhv, eq_self, rb, n5, bd, hst, rq, rbb, zl9 e hx, wn, wt]
      exact ⟨trivial, trivial⟩
    obtain ⟨v, h', r, rfl, rfl⟩ := this
    exact r
  · rw [← eq_of_beq hst]; exact zos hb
end
end Go.Proofs.YtljdbheclfaloaaGreatDoor.AM
namespace Go.Proofs.YtljdbheclfaloaaGreatDoor.AM
open Go.RowKit
set_option linter.unusedSimpArgs false
set_option linter.unusedVariables false

theorem zm6 {e : Nat} : ∀ {k : Nat} {ts r : List Tok} {gs : List Gv}, ft e k ts = .ok gs r → r.length ≤ ts.length ∧ gs.length ≤ ts.length
  | 0, ts, r, gs, h => by rw [ft] at h; cases h; simp
  | k + 1, ts, r, gs, h => by
    rw [ft] at h
    cases hg : zj7 e ts with
    | bad c a => rw [hg] at h; cases h
    | ok g r1 =>
      have h1 := zh5 hg
      rw [hg] at h
      cases r1 with
      | nil => cases h; simp at h1 ⊢; omega
      | cons t r1 =>
        simp only at h
        split at h
        · cases hr : ft e k r1 with
          | bad c a => rw [hr] at h; cases h
          | ok gs' r2 =>
            rw [hr] at h
            obtain ⟨a, b⟩ := zm6 hr
            simp only [List.length_cons] at h1
            cases h
            simp only [List.length_cons]; omega
        · cases h; simp only [List.length_cons, List.length_nil] at h1 ⊢; omega
theorem zlq {e : Nat} {rc : Bool} {ts r : List Tok} {s : Stm} (h : ziw e rc ts = .ok s r) : r.length ≤ ts.length ∧ ∀ rc' gs, s = .lets rc' gs → gs.length ≤ ts.length := by
  unfold ziw at h
  split at h
  · cases h
  · rename_i gs r' hg
    cases h
    obtain ⟨a, b⟩ := zm6 hg
    exact ⟨a, fun rc' gs' hs => by cases hs; exact b⟩
theorem ziy {e : Nat} {k : Ck} {ts r : List Tok} {s : Stm} (h : zdk e k ts = .ok s r) : r.length ≤ ts.length ∧ ∀ rc' gs, s ≠ .lets rc' gs := by
  unfold zdk at h
  split at h
  · cases h
  · rename_i x hx
    cases h; exact ⟨by simp, fun _ _ => by simp⟩
  · rename_i x t r1 hx
    have h1 := za6 _ _ _ _ _ hx
    simp only [List.length_cons] at h1
    split at h
    · split at h
      · cases h
      · rename_i w r2 hn
        cases h
        cases r1 with
        | nil => cases hn
        | cons t2 r2' =>
          rw [zli] at hn
          split at hn
          · cases hn; exact ⟨by simp at h1 ⊢; omega, fun _ _ => by simp⟩
          · cases hn
    · cases h; exact ⟨by simp; omega, fun _ _ => by simp⟩
theorem zfy {e : Nat} {t : Tok} {ts r : List Tok} {s : Stm} (h : ze6 e (t :: ts) = .ok s r) : r.length ≤ ts.length ∧ ∀ rc' gs, s = .lets rc' gs → gs.length ≤ ts.length := by
  rw [ze6] at h
  split at h
  · cases ts with
    | nil => exact zlq (rc := false) h
    | cons t2 r2 =>
      rw [letP] at h
      split at h
      · obtain ⟨a, b⟩ := zlq h
        exact ⟨by simp; omega, fun rc gs hs => by have := b rc gs hs; simp; omega⟩
      · exact zlq h
  split at h
  · obtain ⟨a, b⟩ := ziy h; exact ⟨a, fun rc gs hs => absurd hs (b rc gs)⟩
  split at h
  · obtain ⟨a, b⟩ := ziy h; exact ⟨a, fun rc gs hs => absurd hs (b rc gs)⟩
  split at h
  · obtain ⟨a, b⟩ := ziy h; exact ⟨a, fun rc gs hs => absurd hs (b rc gs)⟩
  · cases h
theorem zl2 (e : Nat) : ∀ k k' ts, ts.length ≤ k → ts.length ≤ k' → j5 e k ts = j5 e k' ts
  | 0, k', ts, h, h' => by
    have : ts = [] := List.eq_nil_of_length_eq_zero (by omega)
    subst this
    cases k' <;> rfl
  | k + 1, 0, ts, h, h' => by
    have : ts = [] := List.eq_nil_of_length_eq_zero (by omega)
    subst this; rfl
  | k + 1, k' + 1, [], h, h' => rfl
  | k + 1, k' + 1, t :: ts, h, h' => by
    simp only [List.length_cons] at h h'
    rw [j5, j5]
    cases hs : ze6 e (t :: ts) with
    | bad c a => rfl
    | ok s r =>
      have := (zfy hs).1
      simp only
      rw [zl2 e k k' r (by omega) (by omega)]
theorem yc0 {P : RP} {k : Nat} (hk : k < P.L.length) : j5 P.en P.L.length (P.L.drop k) = match ze6 P.en (P.L.drop k) with
    | .bad c a => .bad c a
    | .ok s r => match j5 P.en P.L.length r with
      | .bad c a => .bad c a
      | .ok l r2 => .ok (s :: l) r2 := by
  obtain ⟨q, hq⟩ : ∃ q, P.L.length = q + 1 := ⟨P.L.length - 1, by omega⟩
  rw [gw hk]
  rw [show j5 P.en P.L.length (y4 P k :: P.L.drop (k + 1)) = j5 P.en (q + 1) (y4 P k :: P.L.drop (k + 1)) by rw [← hq], j5]
  cases hs : ze6 P.en (y4 P k :: P.L.drop (k + 1)) with
  | bad c a => rfl
  | ok s r =>
    have := (zfy hs).1
    simp only [List.length_drop] at this
    simp only
    rw [zl2 P.en q P.L.length r (by omega) (by omega)]
    rfl
theorem zv6 {s : List UInt8} {c : Nat} (h : zct s = .bad c) : c ≠ 0 := by
  cases s with
  | nil => cases h; decide
  | cons b s =>
    rw [zct] at h
    split at h
    · split at h
      · cases h
      · cases h; decide
    · split at h
      · cases h
      · split at h
        · cases h
        · split at h
          · cases h
          · cases h; decide
theorem zjm : ∀ {f : Nat} {s : List UInt8} {a c p : Nat}, zgt f s a = .bad c p → c ≠ 0
  | 0, s, a, c, p, h => by cases h
  | f + 1, s, a, c, p, h => by
    rw [zgt] at h
    split at h
    · cases h
    · split at h
      · exact zjm h
      · cases h; decide
      · split at h
        · rename_i kd k n hw
          cases hq : zgt f (s.drop k) (a + k) with
          | ok l => rw [hq] at h; cases h
          | bad c' p' => rw [hq] at h; cases h; exact zjm hq
        · rename_i c' hw
          cases h; exact zv6 hw
theorem zv9 {s : List UInt8} {a c p : Nat} (h : k9 s a = .bad c p) : c ≠ 0 := zjm h
theorem ya4 {s : List UInt8} {kd k a : Nat} {n : Int} (h : zct s = .word kd k n) : zpx ⟨kd, s.take k, n, a⟩ := by
  have hp := zcv h
  cases s with
  | nil => cases h
  | cons c s =>
    have ht : ∀ k, 1 ≤ k → (c :: s).take k = c :: s.take (k - 1) := fun k hk => by
      obtain ⟨m, rfl⟩ : ∃ m, k = m + 1 := ⟨k - 1, by omega⟩
      rfl
    rw [zct] at h
    split at h
    · split at h
      · cases h; exact .inr (.inl rfl)
      · cases h
    · split at h
      · rename_i hl
        cases h
        exact .inl ⟨rfl, c, _, ht _ hp.1, hl⟩
      · split at h
        · rename_i hm
          cases h
          refine .inr (.inr ⟨rfl, c, _, ht _ hp.1, ?_⟩)
          rcases Bool.or_eq_true_iff.1 hm with hm | hm
          · have : c = 47 := by simp [List.isPrefixOf] at hm; exact hm.1.symm
            rw [this]; rfl
          · have : c = 92 := by simp [List.isPrefixOf] at hm; exact hm.1.symm
            rw [this]; rfl
        · split at h
          · rename_i hm
            cases h
            exact .inr (.inr ⟨rfl, c, _, ht _ hp.1, hm⟩)
          · cases h
theorem zo2 : ∀ {f : Nat} {s : List UInt8} {a : Nat} {l : List Tok}, zgt f s a = .ok l → (∀ t ∈ l, zpx t) ∧ l.length ≤ f
  | 0, s, a, l, h => by cases h; simp
  | f + 1, s, a, l, h => by
    rw [zgt] at h
    split at h
    · cases h; simp
    · split at h
      · obtain ⟨x, y⟩ := zo2 h; exact ⟨x, by omega⟩
      · cases h
      · split at h
        · rename_i kd k n hw
          cases hq : zgt f (s.drop k) (a + k) with
          | ok m =>
            rw [hq] at h
            obtain ⟨x, y⟩ := zo2 hq
            cases h
            refine ⟨fun t ht => ?_, by simp; omega⟩
            rcases List.mem_append.1 ht with ht | ht
            · simp at ht; subst ht; exact ya4 hw
            · exact x t ht
          | bad c' p' => rw [hq] at h; cases h
        · cases h
theorem ych {s : List UInt8} {a : Nat} {l : List Tok} (h : k9 s a = .ok l) : (∀ t ∈ l, zpx t) ∧ l.length ≤ s.length := zo2 h
theorem Pre.of {h H : Heap} (hl : h.length ≤ H.length) (hk : ∀ (b : Nat) (o : AObj), h[b]? = some o → H[b]? = some o) : Pre h H := by
  refine ⟨H.drop h.length, ?_⟩
  have : H.take h.length = h := by
    apply List.ext_getElem?
    intro b
    rw [List.getElem?_take]
    by_cases hb : b < h.length
    · rw [if_pos hb]
      have := hk b h[b] (List.getElem?_eq_getElem hb)
      rw [this, List.getElem?_eq_getElem hb]
    · rw [if_neg hb, List.getElem?_eq_none (by omega)]
  rw [← this, List.length_take, Nat.min_eq_left (by omega), List.take_append_drop]
/-! Known at first. -/
def wq (d : Bys × Bool) : List Value := [str d.1, .bool d.2]
end Go.Proofs.YtljdbheclfaloaaGreatDoor.AM
namespace Go.Proofs.YtljdbheclfaloaaGreatDoor.AM
open Go.RowKit
set_option linter.unusedSimpArgs false
set_option linter.unusedVariables false
set_option maxRecDepth 20000

theorem zpo {h : Heap} {s : Value} {rows : List (List Value)} (e : Sl h s 4 rows) (hr : rows.length ≤ 1000000) : ∃ s' h', DF FF vx [s] h = some (s', h') ∧ Own h h' s' 4 rows ∧ Pre h h' := by
  have : ∃ s' h', DF FF vx [s] h = some (s', h') ∧ (Own h h' s' 4 rows ∧ Pre h h') := by
    refine ww zas ?_
    rcases e with ⟨⟨rfl, rfl⟩ | ⟨b, o, v, rfl, hrd⟩, hc⟩
    · simp only [jh, ya, zs, xe, zb, zx, yb, zm, zc, zo, zf, ze, zd, List.set_cons_succ, List.set_cons_zero, O_mv, List.cons_append, List.nil_append, List.length_cons, List.length_nil, Nat.reduceSub, Nat.zero_add, zn, yc, za, y6, zh, zg, wt, xy, Bool.bne_false, jm, yj, nils, show qv .slice (.slice none 0 0) (.slice none 0 0) = some true from rfl, xp, xy, wt]
      exact ⟨Own.nil _ _ _, Pre.refl h⟩
    · have hl := bo rows 4 hc
      have hs : zck (h ++ [AObj.cells [] 0 false]) 4 (.slice (some ⟨b, o, some v⟩) rows.length 4) = some (rows.flatten, rows.length) := zom _ (zh4 h _ hrd)
      have ha := zq7 h (L := []) (size := 4) (bytes := 40) (m := 0) (n := rows.length) (ver := 0) (vals := []) (ys := rows.flatten) (by simp) (by unfold j3; omega)
      simp only [List.nil_append, Nat.zero_add] at ha
      simp only [jh, ya, zs, xe, yl, zb, zu, yb, zm, zc, zo, zf, ze, zd, List.set_cons_succ, List.set_cons_zero, O_mv, w5, wo, yd, xd, yy, List.cons_append, List.nil_append, List.length_cons, List.length_nil, Nat.reduceAdd, Nat.reduceSub, Nat.zero_add, zn, yc, za, slc, jj, zh, zg, xy, Bool.bne_false, jm, yj, show qv .slice (.slice (some ⟨b, o, some v⟩) rows.length 4) (.slice none 0 0) = some false from rfl, xp, hs, ha, xy]
      rw [zgq h rfl]
      exact ⟨⟨.inr ⟨h.length, 1, Nat.le_refl _, rfl, by simp⟩, hc⟩, Pre.more (Pre.refl h) _⟩
  obtain ⟨s', h', q, a, b⟩ := this
  exact ⟨s', h', q, a, b⟩
theorem yg4 {h : Heap} {s : Value} {rows : List (List Value)} (e : Sl h s 4 rows) (hr : rows.length ≤ 1000000) : ∃ s' c h', DF FF zgg [s] h = some (pt c, h') ∧ h'[c]? = some (.cells [s', .int .i64 0] 0 false) ∧ Own h h' s' 4 rows ∧ blk s' ≠ some c ∧ h.length ≤ c ∧ Pre h h' := by
  have : ∃ v h', DF FF zgg [s] h = some (v, h') ∧ ∃ s' c, (v = pt c ∧ h'[c]? = some (.cells [s', .int .i64 0] 0 false) ∧ Own h h' s' 4 rows ∧ blk s' ≠ some c ∧ h.length ≤ c ∧ Pre h h') := by
    refine ww zwh ?_
    obtain ⟨s', h1, q, a, p⟩ := zpo e hr
    obtain ⟨x, y, z, rfl⟩ := a.slice
    simp only [zmr, ya, xe, zb, yb, zm, zc, zo, zf, ze, zd, List.set_cons_succ, List.set_cons_zero, O_mv, ye, List.map_cons, List.map_nil, x8, y9, yd, z8, yy, znl, Nat.zero_lt_succ, List.cons_append, List.nil_append, List.length_cons, List.length_nil, Nat.reduceAdd, Nat.reduceSub, Nat.zero_add, zn, yc, za, w9, zh, zg, xy, eq_self, yh, zt, q, yh, zt, xy, kv]
    exact ⟨_, _, rfl, by simp, a.more _, fun h => by have := (a.lt h).2; omega, p.le, p.more _⟩
  obtain ⟨v, h', q, s', c, rfl, g⟩ := this
  exact ⟨s', c, h', q, g⟩
structure M3 (P : RP) (mb : Nat) (h h' : Heap) : Prop where
  keep : ∀ (b : Nat) (o : AObj), h[b]? = some o → b ≠ P.r → b ≠ P.c → b ≠ mb → h'[b]? = some o
  le : h.length ≤ h'.length
theorem M3.refl (P : RP) (mb : Nat) (h : Heap) : M3 P mb h h := ⟨fun _ _ e _ _ _ => e, Nat.le_refl _⟩
theorem zzf (z0 z1 z2 z3 : Value) {row : List Value} (h : row.length = 4) : wz [z0, z1, z2, z3] [(0, 4, agg row)] = some row := by
  match row, h with
  | [a, b, c, d], _ => exact zep z0 z1 z2 z3 a b c d
def PaS (P : RP) (mb : Nat) (H4 : Heap) (R : PR (List Stm)) (m : Nat) (K : Heap) : Prop :=
  (∃ k ss T acc rows, m = P.L.length - k + 1 ∧ Rd P K k 0 0 0 ∧ K[mb]? = some (.cells [nils, ss] 0 false) ∧ Own [] K ss 4 rows ∧ StsP K T rows acc ∧ (∀ z, T z → mb < z ∧ z < K.length ∧ blk ss ≠ some z) ∧ (∀ b, blk ss = some b → mb < b) ∧ M3 P mb H4 K ∧ acc.length ≤ k ∧
    (∀ rc gs, Stm.lets rc gs ∈ acc → gs.length ≤ 8192) ∧ (match j5 P.en P.L.length (P.L.drop k) with | .bad c a => R = .bad c a | .ok l r => R = .ok (acc ++ l) r)) ∨
  (∃ k c a x y z rows, m = 0 ∧ Rd P K k 0 c a ∧ c ≠ 0 ∧ R = .bad c a ∧ K[mb]? = some (.cells [nils, .slice x y z] 0 false) ∧ M3 P mb H4 K ∧ Own [] K (.slice x y z) 4 rows ∧ (∀ b, blk (.slice x y z) = some b → mb < b) ∧ rows.length ≤ 8193)
def PaI (P : RP) (mb : Nat) (H4 : Heap) (ns : Value) (R : PR (List Stm)) (m : Nat) (st : St) : Prop := ∃ K, (∃ j : Nat → Value, st = ⟨[j 0, ns, j 2, j 3, j 4, j 5, j 6, j 7, j 8, j 9, pt P.r, pt mb, j 12, j 13, j 14, j 15, j 16, j 17, j 18, j 19, j 20, j 21, j 22, j 23, j 24, j 25, j 26, j 27, j 28, j 29, j 30, j 31, j 32, j 33, j 34, j 35, j 36, j 37, j 38, j 39, j 40, j 41, j 42, j 43, j 44, j 45, j 46, j 47, j 48, j 49, j 50, j 51, j 52, j 53, j 54, j 55, j 56, j 57, j 58, j 59, j 60, j 61, j 62, j 63, j 64, j 65, j 66, j 67, j 68, j 69, j 70, j 71, j 72, j 73, j 74, j 75, j 76, j 77, j 78, j 79, j 80, j 81, j 82, j 83, j 84, j 85, j 86, j 87, j 88, j 89, j 90, j 91, j 92, j 93, j 94, j 95, j 96, j 97, j 98, j 99, j 100, j 101, j 102, j 103, j 104, j 105, j 106, j 107, j 108, j 109, j 110, j 111, j 112, j 113, j 114, j 115, j 116, j 117, j 118, j 119, j 120, j 121, j 122, j 123, j 124, j 125, j 126, j 127, j 128, j 129, j 130], K⟩) ∧ PaS P mb H4 R m K
theorem yb3 {P : RP} {mb : Nat} {H4 K : Heap} {R : PR (List Stm)} {k : Nat} {ss : Value} {T : Nat → Prop} {acc : List Stm} {rows : List (List Value)} (e4 : Rd P H4 0 0 0 0) (hl4 : H4.length = mb + 1) (hmr : mb ≠ P.r) (hmc : mb ≠ P.c) (hwm : blk P.ws ≠ some mb) (hcm : blk P.cs ≠ some mb) (hk : k < P.L.length) (eK : Rd P K k 0 0 0) (hm : K[mb]? = some (.cells [nils, ss] 0 false)) (own : Own [] K ss 4 rows) (st : StsP K T rows acc) (hT : ∀ z, T z → mb < z ∧ z < K.length ∧ blk ss ≠ some z) (hb : ∀ b, blk ss = some b → mb < b) (m4 : M3 P mb H4 K) (hacc : acc.length ≤ k)
    (hgs : ∀ rc gs, Stm.lets rc gs ∈ acc → gs.length ≤ 8192) (hR : (match j5 P.en P.L.length (P.L.drop k) with | .bad c a => R = .bad c a | .ok l r => R = .ok (acc ++ l) r)) :
    ∃ row K1 x y z K2, row.length = 4 ∧ DF FF gp [pt P.r] K = some (agg row, K1) ∧ Heap.read1 K1 ⟨mb, 1, some 0⟩ = some ss ∧
      j2 (K1 ++ [.cells row 0 false]) 4 64 ss (zck (K1 ++ [.cells row 0 false]) 4 (.slice (some ⟨K1.length, 0, some 0⟩) 1 4)) = some (.slice x y z, K2) ∧ Heap.write1 K2 ⟨mb, 1, some 0⟩ (.slice x y z) = some (K2.set mb (.cells [nils, .slice x y z] 0 false)) ∧
      ∃ m', m' < P.L.length - k + 1 ∧ PaS P mb H4 R m' (K2.set mb (.cells [nils, .slice x y z] 0 false)) := by
  have hL := P.len
  have lr := e4.lr; have lc := e4.lc
  obtain ⟨v, K1, q1, x1⟩ := zsh eK hk
  have m1 : Mv P K K1 := by
    cases hx : ze6 P.en (P.L.drop k) with
    | ok s r => rw [hx] at x1; obtain ⟨_, _, _, _, _, _, m⟩ := x1; exact m
    | bad c a => rw [hx] at x1; obtain ⟨_, _, _, _, _, m⟩ := x1; exact m
  obtain ⟨row, hrow, hr4⟩ : ∃ row, v = agg row ∧ row.length = 4 := by
    cases hx : ze6 P.en (P.L.drop k) with
    | ok s r => rw [hx] at x1; obtain ⟨row, _, hv, _, _, st, _⟩ := x1; exact ⟨row, hv, st.len⟩
    | bad c a => rw [hx] at x1; obtain ⟨row, hv, h4, _⟩ := x1; exact ⟨row, hv, h4⟩
  subst hrow
  have hm1 := m1.keep _ _ hm hmr hmc
  have own1 : Own [] K1 ss 4 rows := own.keep fun b hb' o ho => m1.keep b o ho (by have := hb b hb'; omega) (by have := hb b hb'; omega)
  obtain ⟨ss', K2, p1, p2, p3, p4, p5, p6⟩ := own1.push (⟨_, rfl⟩ : Pre [] K1) (row := row) (bytes := 64) hr4 (by rw [(st.len).1]; unfold j3; omega)
  obtain ⟨x, y, z, rfl⟩ := p2.slice
  have hbm : blk ss ≠ some mb := fun h => by have := hb _ h; omega
  have hm2 : K2[mb]? = some (.cells [nils, ss] 0 false) := p5 _ _ hm1 hbm
  have lm2 := (List.getElem?_eq_some_iff.1 hm2).1
  have blk2 : ∀ b, blk (.slice x y z) = some b → mb < b := fun b hb' => by
    rcases p6 with h | ⟨j, h, h'⟩
    · rw [h] at hb'; exact hb b hb'
    · rw [h] at hb'; cases hb'; have := (List.getElem?_eq_some_iff.1 hm1).1; omega
  have m2 : M3 P mb H4 (K2.set mb (.cells [nils, .slice x y z] 0 false)) := ⟨fun b o ho n1 n2 n3 => by
    have hlt := (List.getElem?_eq_some_iff.1 ho).1
    rw [List.getElem?_set_ne (Ne.symm n3)]
    exact p5 b o (m1.keep b o (m4.keep b o ho n1 n2 n3) n1 n2) fun h => by have := hb b h; omega, by rw [List.length_set]; have := m4.le; have := m1.le; omega⟩
  have rd2 : ∀ k' x' a', Rd P K1 k' 0 x' a' → Rd P (K2.set mb (.cells [nils, .slice x y z] 0 false)) k' 0 x' a' := fun k' x' a' e => by
    have kp : ∀ b o, b < H4.length → b ≠ mb → K1[b]? = some o → (K2.set mb (.cells [nils, .slice x y z] 0 false))[b]? = some o := fun b o hlt n3 ho => by
      rw [List.getElem?_set_ne (Ne.symm n3)]; exact p5 b o ho fun h => by have := hb b h; omega
    have wlt : ∀ b, blk P.ws = some b → b < H4.length ∧ b ≠ mb := fun b hb' => ⟨e4.sw.lt hb', by rintro rfl; exact hwm hb'⟩
    have clt : ∀ b, blk P.cs = some b → b < H4.length ∧ b ≠ mb := fun b hb' => ⟨e4.sc.lt hb', by rintro rfl; exact hcm hb'⟩
    exact ⟨kp _ _ lr (Ne.symm hmr) e.hr, kp _ _ lc (Ne.symm hmc) e.hc, e.sw.keep fun b hb' o ho => kp b o (wlt b hb').1 (wlt b hb').2 ho, e.sc.keep fun b hb' o ho => kp b o (clt b hb').1 (clt b hb').2 ho, e.le⟩
  refine ⟨row, K1, x, y, z, K2, hr4, q1, x5 hm1, p1, by rw [ph hm2 (by simp)]; rfl, ?_⟩
  rw [yc0 hk] at hR
  cases hx : ze6 P.en (P.L.drop k) with
  | bad c a =>
    rw [hx] at x1 hR
    obtain ⟨_, _, _, hc, ⟨k', e1⟩, _⟩ := x1
    exact ⟨0, by omega, .inr ⟨k', c, a, x, y, z, rows ++ [row], rfl, rd2 _ _ _ e1, hc, hR, by rw [List.getElem?_set_self lm2], m2, p2.keep fun b hb' o ho => by rw [List.getElem?_set_ne (by have := blk2 b hb'; omega)]; exact ho, blk2, by rw [List.length_append, (st.len).1]; simp; omega⟩⟩
  | ok s r =>
    rw [hx] at x1 hR
    obtain ⟨row', k', hrr, rfl, e1, sp, _⟩ := x1
    have hrr : row = row' := by simpa [agg] using hrr
    subst hrr
    have hsh := hx
    rw [gw hk] at hsh
    obtain ⟨s1, s2⟩ := zfy hsh
    simp only [List.length_drop] at s1 s2
    have kle := e1.le
    have hlK := (List.getElem?_eq_some_iff.1 hm).1
    refine ⟨P.L.length - k' + 1, by omega, .inl ⟨k', .slice x y z, fun w => T w ∨ Iv K.length K1.length w, acc ++ [s], rows ++ [row], rfl, rd2 _ _ _ e1, by rw [List.getElem?_set_self lm2], p2.keep fun b hb' o ho => by rw [List.getElem?_set_ne (by have := blk2 b hb'; omega)]; exact ho, ?_, ?_, blk2, m2, by simp; omega, ?_, ?_⟩⟩
    · refine StsP.snoc (sp.keep fun w o hw ho => ?_) (st.keep fun w o hw ho => ?_) fun w hw hI => by have := (hT w hw).2.1; have := hI.1; omega
      · rw [List.getElem?_set_ne (by have := hw.1; omega)]
        exact p5 w o ho fun h => by have := (own.lt h).2; have := hw.1; omega
      · obtain ⟨t1, t2, t3⟩ := hT w hw
        rw [List.getElem?_set_ne (by omega)]
        exact p5 w o (m1.keep w o ho (by omega) (by omega)) t3
    · intro w hw
      rw [List.length_set]
      have hlw : w < K1.length ∧ mb < w ∧ blk ss ≠ some w := by
        rcases hw with hw | hw
        · obtain ⟨t1, t2, t3⟩ := hT w hw; have := m1.le; exact ⟨by omega, t1, t3⟩
        · have := hw.1; have := hw.2; exact ⟨by omega, by omega, fun h => by have := (own.lt h).2; omega⟩
      refine ⟨hlw.2.1, by omega, fun h => ?_⟩
      rcases p6 with h6 | ⟨j, h6, h7⟩
      · rw [h6] at h; exact hlw.2.2 h
      · rw [h6] at h; cases h; omega
    · intro rc gs hmem
      rcases List.mem_append.1 hmem with hmem | hmem
      · exact hgs rc gs hmem
      · simp at hmem; have := s2 rc gs hmem.symm; omega
    · simp only at hR
      cases hq : j5 P.en P.L.length (P.L.drop k') with
      | bad c a => rw [hq] at hR; exact hR
      | ok l2 r2 => rw [hq] at hR; simp only at hR ⊢; rw [hR]; simp
theorem zuq {F : Funcs} {b : pz} {Q : AEx → St → Prop} (id : Nat) (I : Nat → St → Prop) (P : St → Prop) (step : ∀ m s, I m s → WPD (D F b s) (zxn I m (outQ id P))) (m : Nat) (s : St) (h0 : I m s) (hq : ∀ s, P s → Q (.exit id) s) : WPD (D F (.loop b) s) Q :=
  (zi4 I step m s h0).mono fun x s ⟨hx, hp⟩ => by subst hx; exact hq s hp
structure PaE (P : RP) (mb : Nat) (H4 K : Heap) (R : PR (List Stm)) (k x a : Nat) (ss : Value) (rows : List (List Value)) : Prop where
  rd : Rd P K k 0 x a
  mo : K[mb]? = some (.cells [nils, ss] 0 false)
  own : Own [] K ss 4 rows
  lo : ∀ b, blk ss = some b → mb < b
  m3 : M3 P mb H4 K
  rl : rows.length ≤ 8193
  ok : x = 0 → a = 0 ∧ ∃ T acc, R = .ok acc [] ∧ StsP K T rows acc ∧ (∀ z, T z → mb < z ∧ z < K.length ∧ blk ss ≠ some z) ∧ (∀ rc gs, Stm.lets rc gs ∈ acc → gs.length ≤ 8192) ∧ acc.length ≤ 8192
  bad : x ≠ 0 → R = .bad x a
def PaO (P : RP) (mb : Nat) (H4 : Heap) (ns : Value) (R : PR (List Stm)) (st : St) : Prop := ∃ K, (∃ j : Nat → Value, st = ⟨[j 0, ns, j 2, j 3, j 4, j 5, j 6, j 7, j 8, j 9, pt P.r, pt mb, j 12, j 13, j 14, j 15, j 16, j 17, j 18, j 19, j 20, j 21, j 22, j 23, j 24, j 25, j 26, j 27, j 28, j 29, j 30, j 31, j 32, j 33, j 34, j 35, j 36, j 37, j 38, j 39, j 40, j 41, j 42, j 43, j 44, j 45, j 46, j 47, j 48, j 49, j 50, j 51, j 52, j 53, j 54, j 55, j 56, j 57, j 58, j 59, j 60, j 61, j 62, j 63, j 64, j 65, j 66, j 67, j 68, j 69, j 70, j 71, j 72, j 73, j 74, j 75, j 76, j 77, j 78, j 79, j 80, j 81, j 82, j 83, j 84, j 85, j 86, j 87, j 88, j 89, j 90, j 91, j 92, j 93, j 94, j 95, j 96, j 97, j 98, j 99, j 100, j 101, j 102, j 103, j 104, j 105, j 106, j 107, j 108, j 109, j 110, j 111, j 112, j 113, j 114, j 115, j 116, j 117, j 118, j 119, j 120, j 121, j 122, j 123, j 124, j 125, j 126, j 127, j 128, j 129, j 130], K⟩) ∧ ∃ k x a ss rows, PaE P mb H4 K R k x a ss rows
end Go.Proofs.YtljdbheclfaloaaGreatDoor.AM
namespace Go.Proofs.YtljdbheclfaloaaGreatDoor.AM
open Go.RowKit
set_option linter.unusedSimpArgs false
set_option linter.unusedVariables false
set_option maxRecDepth 20000

def ChkR (P : RP) (i : Nat) (S : Nat → Prop) (v : Value) (pl : Nat) (h' : Heap) : CR Ex → Prop
  | .ok e' => TreeP h' S v e' ∧ e'.pl = pl ∧ Rd P h' i 0 0 0
  | .bad c a => c ≠ 0 ∧ (∃ e', TreeP h' S v e' ∧ e'.pl = pl) ∧ Rd P h' i 0 c a
def zfg (P : RP) (kn : Kn) (rc : List Bys) (rt : Bool) (e : Ex) : Prop := ∀ (hb h : Heap) (i0 i q km n : Nat) (rm : Value) (S : Nat → Prop) (v : Value), Rd P hb i0 0 0 0 → Rd P h i 0 0 0 → Ch P h q km rm n kn rc → TreeP h S v e → Cl P hb q km rm S → (∀ z, S z → z < h.length) →
  ∃ h', DF FF xm [pt q, v, .bool rt] h = some (tup [], h') ∧ ChkR P i S v e.pl h' (chkE kn rc rt e) ∧ Kp P S h h'
theorem ChkR.fin {P : RP} {i pl : Nat} {S : Nat → Prop} {v : Value} {h H : Heap} {R : CR Ex} (eh : Rd P h i 0 0 0) (k : Kp P S h H) (hS : ∀ z, S z → z < h.length) (r : ChkR P i S v pl H R) (w : Value) : ChkR P i S v pl (AM.finish h w H) R ∧ Kp P S h (AM.finish h w H) := by
  rcases zaj h H w with hf | ⟨hf, hk⟩
  · rw [hf]; exact ⟨r, k⟩
  · rw [hf]
    have g : ∀ b o, b < h.length → H[b]? = some o → h[b]? = some o := fun b o hb ho => by
      rw [← hk, List.getElem?_take, if_pos hb]; exact ho
    have rd : ∀ x a, Rd P H i 0 x a → Rd P h i 0 x a := fun x a e =>
      ⟨g _ _ eh.lr e.hr, g _ _ eh.lc e.hc, eh.sw, eh.sc, eh.le⟩
    refine ⟨?_, Kp.refl P S h⟩
    cases R with
    | ok e' => exact ⟨r.1.keep fun b o hb ho => g b o (hS b hb) ho, r.2.1, rd _ _ r.2.2⟩
    | bad c a =>
      obtain ⟨hc, ⟨e', t, hp⟩, e⟩ := r
      exact ⟨hc, ⟨e', t.keep fun b o hb ho => g b o (hS b hb) ho, hp⟩, rd _ _ e⟩
theorem qw (op w : Bys) (a : Nat) (l r : Value) (s : Bool) : (vh op w a l r s)[0]? = some (str op) := rfl
theorem zg6 (op w : Bys) (a : Nat) (l r : Value) (s : Bool) : (vh op w a l r s)[1]? = some (str w) := rfl
theorem qj (op w : Bys) (a : Nat) (l r : Value) (s : Bool) : (vh op w a l r s)[3]? = some l := rfl
theorem qg (op w : Bys) (a : Nat) (l r : Value) (s : Bool) : (vh op w a l r s)[4]? = some r := rfl
theorem zb0 (op w : Bys) (a : Nat) (l r : Value) (s : Bool) : (vh op w a l r s)[5]? = some (.bool s) := rfl
theorem ziv (op w : Bys) (a : Nat) (l r : Value) (s t : Bool) : (vh op w a l r s).set 5 (.bool t) = vh op w a l r t := rfl
theorem Rd.node {P : RP} {hb h : Heap} {i i' x a x' a' d d' b : Nat} (e0 : Rd P hb i d x a) (e : Rd P h i' d' x' a') (hlb : hb.length ≤ b) (o : AObj) : Rd P (h.set b o) i' d' x' a' := e0.upd e hlb o
theorem Kp.set {P : RP} {S : Nat → Prop} {h h' : Heap} {b : Nat} (k : Kp P S h h') (hb : S b) (o : AObj) : Kp P S h (h'.set b o) :=
  ⟨fun c o' ho n1 n2 => by rw [List.getElem?_set_ne (by rintro rfl; exact n1 hb)]; exact k.keep c o' ho n1 n2, by rw [List.length_set]; exact k.le⟩
set_option maxHeartbeats 4000000 in
theorem zwf (P : RP) (kn : Kn) (rc : List Bys) (s : Bool) (a : Nat) (w : Bys) (rt : Bool) : zfg P kn rc rt (.name s a w) := by
  intro hb h i0 i q km n rm S v e0 eh ch tr cl hS
  obtain ⟨b, rfl, hbS, hbo⟩ := tr
  have : ∃ v h', DF FF xm [pt q, pt b, .bool rt] h = some (v, h') ∧ (v = tup [] ∧ ChkR P i S (pt b) a h' (chkE kn rc rt (.name s a w)) ∧ Kp P S h h') := by
    refine ww qa ?_
    obtain ⟨h0, hh0⟩ : ∃ h0, h0 = h ++ [AObj.cells [pt q] 0 false] := ⟨_, rfl⟩
    have eh0 : Rd P h0 i 0 0 0 := by rw [hh0]; exact eh.more _
    have k0 : Kp P S h h0 := by rw [hh0]; exact Kp.add _ _ _ _
    have hbb : h0[h.length]? = some (.cells [pt q] 0 false) := by rw [hh0]; simp
    have ch0 := ch.kp eh k0 cl.q cl.k cl.r
    have hn : h0[b]? = some (.cells (vh zf2 w a nilP nilP s) 0 false) := by rw [hh0]; exact y8 _ hbo
    have rb : ∀ j, Heap.read1 h0 ⟨b, j, some 0⟩ = (vh zf2 w a nilP nilP s)[j]? := fun j => x5 hn
    have rq : ∀ j, Heap.read1 h0 ⟨q, j, some 0⟩ = ([pt P.r, .map (some km), rm, .int .i64 (n : Int)] : List Value)[j]? := fun j => x5 ch0.cq
    have rbb : ∀ j, Heap.read1 h0 ⟨h.length, j, some 0⟩ = ([pt q] : List Value)[j]? := fun j => x5 hbb
    have nil1 := fun rt => zfv (q := q) eh0 rt
    have lk := zfr h0 ch0.ck (.bool false) true (w := w) (ztg kn w)
    have lr : zpd h0 .str (.bool false) false rm (str w) = some (.bool (rc.contains w), h0) := by
      rcases ch0.cr with ⟨h1, h2⟩ | ⟨b', h1, h2⟩
      · rw [h1, h2, ybt]; rfl
      · rw [h1]
        rw [zfr h0 h2 (.bool false) false (w := w) (zzu rc w)]
        cases rc.contains w <;> rfl
    have wb : ∀ (K : Heap) (t : Bool), K[b]? = some (.cells (vh zf2 w a nilP nilP s) 0 false) → Heap.write1 K ⟨b, 5, some 0⟩ (.bool t) = some (K.set b (.cells (vh zf2 w a nilP nilP t) 0 false)) := fun K t hK => by rw [ph hK (by simp [vh]), ziv]
    have fin : ∀ (K : Heap) (t : Bool) (x p : Nat), Rd P K i 0 x p → Kp P S h K → K[b]? = some (.cells (vh zf2 w a nilP nilP s) 0 false) → (x = 0 → p = 0) → ∀ R, (R = if x = 0 then CR.ok (.name t a w) else .bad x p) → ChkR P i S (pt b) a (K.set b (.cells (vh zf2 w a nilP nilP t) 0 false)) R ∧ Kp P S h (K.set b (.cells (vh zf2 w a nilP nilP t) 0 false)) := by
      intro K t x p eK kK hK hx R hR
      have hlt := (List.getElem?_eq_some_iff.1 hK).1
      have tr : TreeP (K.set b (.cells (vh zf2 w a nilP nilP t) 0 false)) S (pt b) (.name t a w) := ⟨b, rfl, hbS, List.getElem?_set_self hlt⟩
      refine ⟨?_, kK.set hbS _⟩
      rw [hR]
      by_cases h0 : x = 0
      · subst h0
        obtain rfl := hx rfl
        exact ⟨tr, rfl, e0.node eK (cl.lo b hbS) _⟩
      · rw [if_neg h0]
        exact ⟨h0, ⟨_, tr, rfl⟩, e0.node eK (cl.lo b hbS) _⟩
    have cb : (b = P.r) = False := by have := cl.lo b hbS; have := e0.lr; simp; omega
    have cc : (b = P.c) = False := by have := cl.lo b hbS; have := e0.lc; simp; omega
    cases hl : jg kn w with
    | none =>
      rw [hl] at lk
      obtain ⟨K, f, eK, mK⟩ := zjr eh0 40 a (by omega)
      simp only [Int.cast_ofNat_Int] at f
      have kK : Kp P S h K := (k0.trans (mK.kp fun o ho => by rw [eK.hc, ← eh0.hc]; exact ho)).weak fun z hz => hz.elim id False.elim
      have hK := mK.keep _ _ hn (by rw [ne_eq, cb]; exact not_false) (by rw [ne_eq, cc]; exact not_false)
      obtain ⟨f1, f2⟩ := fin K false 40 a eK kK hK (by omega) (chkE kn rc rt (.name s a w)) (by rw [chkE, hl]; rfl)
      have ff := ChkR.fin eh f2 hS f1
      simp only [Option.map_none, zg9, if_true] at lk
      cases rt
      · simp only [yw, ya, zs, yl, zb, zx, zu, yb, zm, yf, zc, zp, y3, zo, zf, ze, zd, List.set_cons_succ, List.set_cons_zero, O_mv, y0, xg, yx, yg, O_un, ye, List.map_cons, List.map_nil, zy, zk, vt, List.cons_append, List.nil_append, List.length_cons, List.length_nil, Nat.reduceAdd, Nat.reduceSub, Nat.zero_add, Bool.not_true, Bool.not_false, zn, yc, zz, za, zi, w9, xb, z7, xh, y7, zl, xc, g8, zq, zj, zh, zg, Nat.add_zero, List.getElem?_cons_zero, List.getElem?_cons_succ, Bool.bne_false, beq_self_eq_true, jm, eq_self, zt, yj, va, laid, zt, ← hh0, xn, xp, rbb, rq, ok_0 eh0, rb, qw, zg6, bd, qj, qg, nil1, gy, zf2, ydo, gc, lk, f, wb K false hK, wn]
        exact ⟨trivial, ff _⟩
      · simp only [yw, ya, zs, yl, zb, zx, zu, yb, zm, yf, zc, zp, y3, wk, zo, zf, ze, zd, List.set_cons_succ, List.set_cons_zero, O_mv, y0, xg, yx, yg, O_un, ye, List.map_cons, List.map_nil, zy, zk, vt, List.cons_append, List.nil_append, List.length_cons, List.length_nil, Nat.reduceAdd, Nat.reduceSub, Nat.zero_add, Bool.not_true, Bool.not_false, zn, yc, zz, za, zi, w9, xb, z7, xh, y7, zl, xc, g8, zq, zj, zh, zg, Nat.add_zero, List.getElem?_cons_zero, List.getElem?_cons_succ, Bool.bne_false, beq_self_eq_true, jm, eq_self, zt, yj, va, laid, zt, ← hh0, xn, xp, rbb, rq, ok_0 eh0, rb, qw, zg6, bd, qj, qg, nil1, gy, zf2, gc, lk, f, wb K false hK, wn]
        exact ⟨trivial, ff _⟩
    | some t =>
      rw [hl] at lk
      simp only [Option.map_some, zg9, if_true] at lk
      cases hm : (rt && rc.contains w)
      · obtain ⟨f1, f2⟩ := fin h0 t 0 0 eh0 k0 hn (fun _ => rfl) (chkE kn rc rt (.name s a w)) (by rw [chkE, hl]; simp only [hm]; rfl)
        have ff := ChkR.fin eh f2 hS f1
        cases rt
        · simp only [yw, ya, zs, yl, zb, zx, zu, yb, zm, yf, zc, zp, y3, vd, zo, zf, ze, zd, List.set_cons_succ, List.set_cons_zero, O_mv, y0, xg, yx, yg, O_un, ye, List.map_cons, List.map_nil, zy, zk, vt, List.cons_append, List.nil_append, List.length_cons, List.length_nil, Nat.reduceAdd, Nat.reduceSub, Nat.zero_add, Bool.not_true, zn, yc, zz, za, zi, w9, xb, z7, xh, y7, zl, xc, g8, zq, zj, zh, zg, Nat.add_zero, List.getElem?_cons_zero, List.getElem?_cons_succ, Bool.bne_false, beq_self_eq_true, jm, eq_self, zt, yj, va, laid, zt, ← hh0, xn, xp, rbb, rq, ok_0 eh0, rb, qw, zg6, qj, qg, nil1, gy, zf2, ydo, gc, lk, wb h0 t hn, wn]
          exact ⟨trivial, ff _⟩
        · rw [Bool.true_and] at hm
          simp only [yw, ya, zs, yl, zb, zx, zu, yb, zm, yf, zc, zp, xq, y3, wk, zo, zf, ze, zd, List.set_cons_succ, List.set_cons_zero, O_mv, y0, xg, yx, yg, O_un, ye, List.map_cons, List.map_nil, zy, zk, vt, List.cons_append, List.nil_append, List.length_cons, List.length_nil, Nat.reduceAdd, Nat.reduceSub, Nat.zero_add, Bool.not_true, zn, yc, zz, za, zi, w9, xb, z7, xh, y7, zl, xc, g8, zq, zj, zh, zg, Nat.add_zero, List.getElem?_cons_zero, List.getElem?_cons_succ, Bool.bne_false, beq_self_eq_true, jm, eq_self, zt, yj, va, laid, zt, ← hh0, xn, xp, rbb, rq, ok_0 eh0, rb, qw, zg6, qj, qg, nil1, gy, zf2, gc, lk, lr, hm, wb h0 t hn, wn]
          exact ⟨trivial, ff _⟩
      · obtain ⟨K, f, eK, mK⟩ := zjr eh0 43 a (by omega)
        simp only [Int.cast_ofNat_Int] at f
        have kK : Kp P S h K := (k0.trans (mK.kp fun o ho => by rw [eK.hc, ← eh0.hc]; exact ho)).weak fun z hz => hz.elim id False.elim
        have hK := mK.keep _ _ hn (by rw [ne_eq, cb]; exact not_false) (by rw [ne_eq, cc]; exact not_false)
        obtain ⟨f1, f2⟩ := fin K t 43 a eK kK hK (by omega) (chkE kn rc rt (.name s a w)) (by rw [chkE, hl]; simp only [hm]; rfl)
        have ff := ChkR.fin eh f2 hS f1
        rw [Bool.and_eq_true] at hm
        obtain ⟨rfl, hm⟩ := hm
        simp only [yw, ya, zs, yl, zb, zx, zu, yb, zm, yf, zc, zp, xq, y3, wk, zo, zf, ze, zd, List.set_cons_succ, List.set_cons_zero, O_mv, y0, xg, yx, yg, O_un, ye, List.map_cons, List.map_nil, zy, zk, vt, List.cons_append, List.nil_append, List.length_cons, List.length_nil, Nat.reduceAdd, Nat.reduceSub, Nat.zero_add, Bool.not_true, zn, yc, zz, za, zi, w9, xb, z7, xh, y7, zl, xc, g8, zq, zj, zh, zg, Nat.add_zero, List.getElem?_cons_zero, List.getElem?_cons_succ, Bool.bne_false, beq_self_eq_true, jm, eq_self, zt, yj, va, laid, zt, ← hh0, xn, xp, rbb, rq, ok_0 eh0, rb, qw, zg6, bd, qj, qg, nil1, gy, zf2, gc, lk, lr, hm, f, wb K t hK, wn]
        exact ⟨trivial, ff _⟩
  obtain ⟨v, h', r, rfl, g⟩ := this
  exact ⟨h', r, g⟩
end Go.Proofs.YtljdbheclfaloaaGreatDoor.AM
