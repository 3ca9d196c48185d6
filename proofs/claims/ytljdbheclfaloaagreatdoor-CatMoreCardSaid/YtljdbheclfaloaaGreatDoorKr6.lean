/-
  Part 6.
  Conditions: as each says.
-/
import Derived.Test.YtljdbheclfaloaaGreatDoorKr5
namespace Go.Proofs.YtljdbheclfaloaaGreatDoor.AM
open Go.RowKit
set_option linter.unusedSimpArgs false
set_option linter.unusedVariables false
set_option maxRecDepth 20000
theorem zel {t : Tok} {m : Bys} (hm : m ≠ []) (h : (keyT t == m) = true) : t.text = m ∧ t.kind ≠ 2 := by
  unfold keyT at h
  by_cases h2 : t.kind = 2
  · rw [if_pos h2] at h; exact absurd (by simpa using h) hm
  · rw [if_neg h2] at h; exact ⟨by simpa using h, h2⟩
theorem zm1 {P : RP} {k : Nat} {m : Bys} (hm : m ≠ []) (h : (keyT (y6 P k) == m) = true) : k < P.L.length := by
  by_cases hk : k < P.L.length
  · exact hk
  · rw [j3 hk, zer] at h; exact absurd (by simpa using h) hm
theorem zwv (P : RP) (k : Nat) : zbz (P.L.drop k) = ((y6 P k).kind == 2 || (za9 (y6 P k) || (keyT (y6 P k) == [40] || keyT (y6 P k) == [91]))) := by
  by_cases hk : k < P.L.length
  · rw [gz hk]; rfl
  · rw [List.drop_eq_nil_of_le (by omega), j3 hk]; rfl
theorem yfd (P : RP) (f : List Tok → PR Ex) (k : Nat) : inv2 P.en f (P.L.drop k) = if keyT (y6 P k) == [45] then inv3 P.en f (P.L.drop (k + 1)) else .bad (zap P k) (za7 P k) := by
  unfold zap za7
  by_cases hk : k < P.L.length
  · rw [gz hk, inv2, if_pos hk, if_pos hk]
  · rw [List.drop_eq_nil_of_le (by omega), j3 hk, if_neg hk, if_neg hk]; rfl
theorem yfs (P : RP) (f : List Tok → PR Ex) (k : Nat) : inv3 P.en f (P.L.drop k) = if (y6 P k).kind == 2 && (y6 P k).n == 1 then f (P.L.drop (k + 1)) else .bad (zap P k) (za7 P k) := by
  unfold zap za7
  by_cases hk : k < P.L.length
  · rw [gz hk, inv3, if_pos hk, if_pos hk]
  · rw [List.drop_eq_nil_of_le (by omega), j3 hk, if_neg hk, if_neg hk]; rfl
theorem yeh (P : RP) (n : Ex) (k : Nat) : pu P.en P.L.length n (P.L.drop k) = if keyT (y6 P k) == [43] then pu P.en P.L.length (.un .plus n) (P.L.drop (k + 1))
    else if keyT (y6 P k) == [63] then pu P.en P.L.length (.un .maybe n) (P.L.drop (k + 1))
    else if keyT (y6 P k) == [42] && !zbz (P.L.drop (k + 1)) then pu P.en P.L.length (.un .star n) (P.L.drop (k + 1))
    else if keyT (y6 P k) == [94] then inv2 P.en (fun r => pu P.en P.L.length (.un .inv n) r) (P.L.drop (k + 1))
    else .ok n (P.L.drop k) := by
  by_cases hk : k < P.L.length
  · obtain ⟨q, hq⟩ : ∃ q, P.L.length = q + 1 := ⟨P.L.length - 1, by omega⟩
    have f : ∀ (x : Ex) (r : List Tok), r.length < P.L.length - k → pu P.en q x r = pu P.en (q + 1) x r := fun x r hr => zck _ _ _ _ _ (by omega) (by omega)
    have hl : (P.L.drop (k + 1)).length < P.L.length - k := by simp; omega
    rw [gz hk, hq, pu, f _ _ hl, f _ _ hl, f _ _ hl, znf fun r hr => f (.un .inv n) r (by omega)]
  · rw [List.drop_eq_nil_of_le (by omega), j3 hk]
    cases P.L.length <;> rfl
theorem zkg (t : Tok) : ((t.kind : Int) == 2) = (t.kind == 2) := by rw [Bool.eq_iff_iff]; simp; omega
theorem zzq {h K : Heap} {b : Nat} {n : Ex} {o : Op1} (t : TreeP K (Iv h.length K.length) (pt b) n) {L : Heap} {j : Nat} (hL : L[j]? = some (.cells (vd (op1S o) [] n.pl (pt b) nilP false) 0 false)) (hh : h.length ≤ K.length) : TreeP (K ++ L) (Iv h.length (K ++ L).length) (pt (K.length + j)) (.un o n) := by
  have hj := (List.getElem?_eq_some_iff.1 hL).1
  refine ⟨K.length + j, Iv h.length K.length, pt b, rfl, ⟨by omega, by simp; omega⟩, ?_, t.keep fun c o _ ho => xa _ ho, fun y hy => ⟨⟨hy.1, by have := hy.2; simp; omega⟩, by have := hy.2; omega⟩⟩
  rw [List.getElem?_append_right (by omega), Nat.add_sub_cancel_left]; exact hL
def BehS (P : RP) (h : Heap) (d : Nat) (R : PR Ex) (m : Nat) (K : Heap) (k : Nat) (v : Value) : Prop :=
  (∃ n, m = P.L.length - k + 1 ∧ Rd P K k d 0 0 ∧ TreeP K (Iv h.length K.length) v n ∧ Mv P h K ∧ pu P.en P.L.length n (P.L.drop k) = R) ∨
  (∃ c p b, m = 0 ∧ v = pt b ∧ R = .bad c p ∧ c ≠ 0 ∧ Rd P K k d c p ∧ Mv P h K)
def BehI (P : RP) (h : Heap) (d : Nat) (R : PR Ex) (m : Nat) (st : St) : Prop := ∃ K k v, (∃ j : Nat → Value, st = ⟨[pt P.r, j 1, .pointer none, v, j 4, j 5, j 6, j 7, j 8, j 9, j 10, j 11, j 12, j 13, j 14, j 15, j 16, j 17, j 18, j 19, j 20, j 21, j 22, j 23, j 24, j 25, j 26, j 27, j 28, j 29, j 30, j 31, j 32, j 33, j 34, j 35, j 36, j 37, j 38, j 39, j 40, j 41, j 42, j 43, j 44, j 45, j 46, j 47, j 48, j 49, j 50, j 51, j 52, j 53, j 54, j 55, j 56, j 57, j 58, j 59, j 60, j 61, j 62, j 63, j 64, j 65, j 66, j 67, j 68, j 69, j 70, j 71, j 72, j 73, j 74, j 75, j 76, j 77, j 78, j 79, j 80, j 81, j 82, j 83, j 84, j 85, j 86], K⟩) ∧ BehS P h d R m K k v
theorem f7 (op w : Bys) (a : Nat) (l r : Value) (s : Bool) : (vd op w a l r s)[2]? = some (.int .i64 (a : Int)) := rfl
set_option maxHeartbeats 2000000 in
theorem ybs {P : RP} {d : Nat} {prim : List Tok → PR Ex} (hF : zcy P gi d prim) (hs : Shr prim) : zcy P jc d (zpa P.en prim) := by
  intro h i e
  refine wz zc7 ?_
  obtain ⟨v0, h0, q0, x0⟩ := hF h i e
  simp only [zad, z7, zb, z8, zn, zc, zo, zf, ze, zd, List.set_cons_succ, List.set_cons_zero, O_mv, yf, List.map_cons, List.map_nil, List.cons_append, List.nil_append, List.length_cons, List.length_nil, Nat.reduceSub, Nat.zero_add, zm, yb, zx, za, zh, zg, yi, q0]
  obtain ⟨R, hR⟩ : ∃ R, R = zpa P.en prim (P.L.drop i) := ⟨_, rfl⟩
  rw [← hR]
  have lr := e.lr; have lc := e.lc
  refine zi6 (BehI P h d R) ?_ (match prim (P.L.drop i) with | .ok n r => r.length + 1 | .bad c p => 0) _ ?_
  · rintro m st ⟨K, k, v, ⟨j, rfl⟩, ⟨n, rfl, eK, tK, mK, hb⟩ | ⟨c, p, b, rfl, rfl, hb, hc, eK, mK⟩⟩
    · have i43 := is_c eK (m := 43) (by decide)
      have i63 := is_c eK (m := 63) (by decide)
      have i42 := is_c eK (m := 42) (by decide)
      have i94 := is_c eK (m := 94) (by decide)
      have hw1 := zjy eK 1 (by omega)
      simp only [Int.cast_ofNat_Int] at hw1
      have hbg := ybj (y6 P (k + 1)) (zuq P (k + 1)) K
      rw [← zwv] at hbg
      obtain ⟨b, op, w, l, r, rfl, hbS, hbo⟩ := tK.root
      have l0 := mK.le
      rw [yeh] at hb
      have one : ∀ (o : Op1), (keyT (y6 P k) == op1S o) = true → R = pu P.en P.L.length (.un o n) (P.L.drop (k + 1)) →
          ∃ K1, DF FF wy [pt P.c] K = some (tup [agg (vo (y6 P k)), .bool true], K1) ∧ (y6 P k).text = op1S o ∧ (∀ j, Heap.read1 (K1 ++ [.cells (vo (y6 P k)) 0 false]) ⟨b, j, some 0⟩ = (vd op w n.pl l r n.set)[j]?) ∧
            ∃ m', m' < P.L.length - k + 1 ∧ BehS P h d R m' (K1 ++ [.cells (vo (y6 P k)) 0 false, .cells (vd (op1S o) [] n.pl (pt b) nilP false) 0 false]) (k + 1) (pt (K1.length + 1)) := by
        intro o hk hR2
        have hne : op1S o ≠ [] := by cases o <;> simp [op1S]
        have hlt := zm1 hne hk
        obtain ⟨K1, q1, e1, m1⟩ := zir eK hlt
        have tn1 : TreeP K1 (Iv h.length K1.length) (pt b) n := (tK.keep fun c o hc ho => m1.keep c o ho (by have := hc.1; omega) (by have := hc.1; omega)).weak fun c hc => ⟨hc.1, by have := hc.2; have := m1.le; omega⟩
        refine ⟨K1, q1, (zel hne hk).1, fun j => we (xa _ (m1.keep b _ hbo (by have := hbS.1; omega) (by have := hbS.1; omega))), P.L.length - (k + 1) + 1, by omega, .inl ⟨.un o n, rfl, e1.more _, ?_, (mK.trans m1).more _, hR2.symm⟩⟩
        exact zzq tn1 (L := [.cells (vo (y6 P k)) 0 false, .cells (vd (op1S o) [] n.pl (pt b) nilP false) 0 false]) (j := 1) rfl (by have := m1.le; omega)
      cases k43 : (keyT (y6 P k) == [43])
      · cases k63 : (keyT (y6 P k) == [63])
        · cases k42 : (keyT (y6 P k) == [42] && !zbz (P.L.drop (k + 1)))
          · rw [k43, k63, k42] at hb
            simp only [Bool.false_eq_true, if_false] at hb
            have skip : ∀ (Q : Prop), ((keyT (y6 P k) == [42]) = false → Q) → ((keyT (y6 P k) == [42]) = true ∧ zbz (P.L.drop (k + 1)) = true → Q) → Q := fun Q a b => by
              cases h1 : (keyT (y6 P k) == [42])
              · exact a h1
              · rw [h1, Bool.true_and, Bool.not_eq_false'] at k42; exact b ⟨h1, k42⟩
            cases k94 : (keyT (y6 P k) == [94])
            · rw [k94] at hb
              simp only [Bool.false_eq_true, if_false] at hb
              have done : ExR P h d (pt b) K R := by rw [← hb]; exact ⟨k, rfl, eK, tK, mK⟩
              refine skip _ (fun s1 => ?_) fun s1 => ?_
              · simp only [z7, zr, xe, yl, zb, zw, zu, z8, zn, ye, zc, yr, w5, zo, zf, ze, zd, List.set_cons_succ, List.set_cons_zero, O_mv, yw, xf, yf, List.map_cons, List.map_nil, zm, yb, zx, za, y5, xx, zch, xt, ok_0 eK, i43, i63, i42, i94, k43, k63, s1, k94, xt, gc]
                exact done
              · simp only [z7, zr, xe, yl, zb, zw, zu, z8, zn, ye, zc, xl, yr, zo, zf, ze, zd, List.set_cons_succ, List.set_cons_zero, O_mv, yw, xf, yg, O_un, yf, List.map_cons, List.map_nil, vp, Bool.not_true, zm, yb, zx, za, y5, xx, zch, xt, ok_0 eK, i43, i63, i42, i94, k43, k63, s1.1, hw1, hbg, s1.2, k94, xt, gc]
                exact done
            · rw [k94] at hb
              simp only [if_true] at hb
              rw [yfd] at hb
              have hlt := zm1 (by simp) k94
              obtain ⟨K1, q1, e1, m1⟩ := zir eK hlt
              obtain ⟨K2, q2, e2, m2⟩ := zun e1 (m := [45]) (by simp)
              have m12 := m1.trans m2
              have tree : ∀ K3, Mv P K2 K3 → TreeP K3 (Iv h.length K3.length) (pt b) n := fun K3 m3 => (tK.keep fun c o hc ho => (m12.trans m3).keep c o ho (by have := hc.1; omega) (by have := hc.1; omega)).weak fun c hc => ⟨hc.1, by have := hc.2; have := (m12.trans m3).le; omega⟩
              have root : ∀ K3 L, Mv P K2 K3 → ∀ j, Heap.read1 (K3 ++ L) ⟨b, j, some 0⟩ = (vd op w n.pl l r n.set)[j]? := fun K3 L m3 j => we (xa _ ((m12.trans m3).keep b _ hbo (by have := hbS.1; omega) (by have := hbS.1; omega)))
              have root0 : ∀ K3, Mv P K2 K3 → ∀ j, Heap.read1 K3 ⟨b, j, some 0⟩ = (vd op w n.pl l r n.set)[j]? := fun K3 m3 j => we ((m12.trans m3).keep b _ hbo (by have := hbS.1; omega) (by have := hbS.1; omega))
              cases k45 : (keyT (y6 P (k + 1)) == [45])
              · rw [k45] at e2 hb
                rw [if_neg Bool.false_ne_true] at e2 hb
                have hw := zjy e2 0 (by omega)
                rw [Nat.add_zero, Int.cast_ofNat_Int] at hw
                have nok := fun L => fh (e2.more L) (fk P (k + 1))
                have fin : BehS P h d R 0 (K2 ++ [.cells (vo (y6 P (k + 1))) 0 false, .cells (vd [94] [] n.pl (pt b) nilP false) 0 false]) (k + 1) (pt (K2.length + 1)) :=
                  .inr ⟨_, _, _, rfl, rfl, hb.symm, fk P (k + 1), e2.more _, (mK.trans m12).more _⟩
                refine skip _ (fun s1 => ?_) fun s1 => ?_
                · simp only [z7, zr, yl, zb, zw, zu, z8, zn, ye, zc, zp, yr, w5, zo, zf, ze, zd, List.set_cons_succ, List.set_cons_zero, O_mv, yw, xf, yg, yf, List.map_cons, List.map_nil, zz, zk, wg, y9, yc, yd, yz, wu, Nat.zero_lt_succ, Nat.reduceLT, List.cons_append, List.nil_append, List.length_cons, List.length_nil, Nat.reduceAdd, Nat.zero_add, zm, yb, zx, za, zi, vq, y0, w8, xc, z6, zl, y4, ya, zq, zj, yk, zy, zs, List.append_assoc, List.length_append, Nat.add_zero, List.getElem?_cons_zero, eq_self, yh, zt, wo, f6, xk, ok_0 eK, i43, i63, i42, i94, k43, k63, s1, k94, eK.r0, q1, q2, hw, nok, root K2 _ (Mv.refl P K2), f7, yh, zt]
                  exact ⟨0, by omega, _, _, _, junk rfl, fin⟩
                · simp only [z7, zr, yl, zb, zw, zu, z8, zn, ye, zc, zp, xl, yr, w5, zo, zf, ze, zd, List.set_cons_succ, List.set_cons_zero, O_mv, yw, xf, yg, O_un, yf, List.map_cons, List.map_nil, zz, zk, wg, y9, yc, yd, yz, wu, Nat.zero_lt_succ, Nat.reduceLT, vp, List.cons_append, List.nil_append, List.length_cons, List.length_nil, Nat.reduceAdd, Nat.zero_add, Bool.not_true, zm, yb, zx, za, zi, vq, y0, w8, xc, z6, zl, y4, ya, zq, zj, yk, zy, zs, List.append_assoc, List.length_append, Nat.add_zero, List.getElem?_cons_zero, eq_self, yh, zt, wo, f6, xk, ok_0 eK, i43, i63, i42, i94, k43, k63, s1.1, hw1, hbg, s1.2, k94, eK.r0, q1, q2, hw, nok, root K2 _ (Mv.refl P K2), f7, yh, zt]
                  exact ⟨0, by omega, _, _, _, junk rfl, fin⟩
              · rw [k45] at e2 hb
                rw [if_pos rfl] at e2 hb
                rw [yfs] at hb
                have hw := zjy e2 0 (by omega)
                rw [Nat.add_zero, Int.cast_ofNat_Int] at hw
                have yok := fun L => ok_0 (e2.more L)
                cases k1 : ((y6 P (k + 1 + 1)).kind == 2 && (y6 P (k + 1 + 1)).n == 1)
                · rw [k1, if_neg Bool.false_ne_true] at hb
                  obtain ⟨K3, q3, e3, m3⟩ := zfu (e2.more [.cells (vo (y6 P (k + 1 + 1))) 0 false])
                  have m3' : Mv P K2 K3 := (Mv.add P K2 _).trans m3
                  have fin : BehS P h d R 0 (K3 ++ [.cells (vd [94] [] n.pl (pt b) nilP false) 0 false]) (k + 1 + 1) (pt K3.length) :=
                    .inr ⟨_, _, _, rfl, rfl, hb.symm, fk P (k + 1 + 1), e3.more _, ((mK.trans m12).trans m3').more _⟩
                  cases kk : ((y6 P (k + 1 + 1)).kind == 2)
                  · refine skip _ (fun s1 => ?_) fun s1 => ?_
                    · simp only [z7, zr, yl, zb, zw, zu, z8, zn, ye, zc, zp, xl, yr, w5, zo, zf, ze, zd, List.set_cons_succ, List.set_cons_zero, O_mv, yw, xf, yu, yg, yf, List.map_cons, List.map_nil, zz, zk, wg, y9, yc, yd, yz, wu, Nat.zero_lt_succ, Nat.reduceLT, jy, List.length_cons, List.length_nil, Nat.reduceAdd, Nat.zero_add, zm, yb, zx, za, zi, vq, y0, w8, xc, z6, zl, y4, ya, zq, zj, yy, yq, yk, zy, zs, Nat.add_zero, List.getElem?_cons_zero, eq_self, yh, zt, wo, f6, xk, vz, ok_0 eK, i43, i63, i42, i94, k43, k63, s1, k94, eK.r0, q1, q2, hw, yok, zkg, kk, q3, root0 K3 m3', f7, yh, zt]
                      exact ⟨0, by omega, _, _, _, junk rfl, fin⟩
                    · simp only [z7, zr, yl, zb, zw, zu, z8, zn, ye, zc, zp, xl, yr, w5, zo, zf, ze, zd, List.set_cons_succ, List.set_cons_zero, O_mv, yw, xf, yu, yg, O_un, yf, List.map_cons, List.map_nil, zz, zk, wg, y9, yc, yd, yz, wu, Nat.zero_lt_succ, Nat.reduceLT, jy, vp, List.length_cons, List.length_nil, Nat.reduceAdd, Nat.zero_add, Bool.not_true, zm, yb, zx, za, zi, vq, y0, w8, xc, z6, zl, y4, ya, zq, zj, yy, yq, yk, zy, zs, Nat.add_zero, List.getElem?_cons_zero, eq_self, yh, zt, wo, f6, xk, vz, ok_0 eK, i43, i63, i42, i94, k43, k63, s1.1, hw1, hbg, s1.2, k94, eK.r0, q1, q2, hw, yok, zkg, kk, q3, root0 K3 m3', f7, yh, zt]
                      exact ⟨0, by omega, _, _, _, junk rfl, fin⟩
                  · rw [kk, Bool.true_and] at k1
                    refine skip _ (fun s1 => ?_) fun s1 => ?_
                    · simp only [z7, zr, yl, zb, zw, zu, z8, zn, ye, zc, zp, xl, yr, w5, zo, zf, ze, zd, List.set_cons_succ, List.set_cons_zero, O_mv, yw, xf, yu, yg, yf, List.map_cons, List.map_nil, zz, zk, wg, y9, yc, yd, yz, wu, Nat.zero_lt_succ, Nat.reduceLT, jy, List.length_cons, List.length_nil, Nat.reduceAdd, Nat.zero_add, zm, yb, zx, za, zi, vq, y0, w8, xc, z6, zl, y4, ya, zq, zj, yy, yq, yk, zy, zs, Nat.add_zero, List.getElem?_cons_zero, eq_self, yh, zt, wo, f6, xk, vz, zej, ok_0 eK, i43, i63, i42, i94, k43, k63, s1, k94, eK.r0, q1, q2, hw, yok, zkg, kk, k1, q3, root0 K3 m3', f7, yh, zt]
                      exact ⟨0, by omega, _, _, _, junk rfl, fin⟩
                    · simp only [z7, zr, yl, zb, zw, zu, z8, zn, ye, zc, zp, xl, yr, zo, zf, ze, zd, List.set_cons_succ, List.set_cons_zero, O_mv, yw, xf, yu, yg, O_un, yf, List.map_cons, List.map_nil, zz, zk, wg, y9, yc, yd, yz, wu, Nat.zero_lt_succ, Nat.reduceLT, jy, vp, List.length_cons, List.length_nil, Nat.reduceAdd, Nat.zero_add, Bool.not_true, zm, yb, zx, za, zi, vq, y0, w8, xc, z6, zl, y4, ya, zq, zj, yy, yq, yk, zy, zs, Nat.add_zero, List.getElem?_cons_zero, eq_self, yh, zt, wo, f6, xk, vz, zej, ok_0 eK, i43, i63, i42, i94, k43, k63, s1.1, hw1, hbg, s1.2, k94, eK.r0, q1, q2, hw, yok, zkg, kk, k1, q3, root0 K3 m3', f7, yh, zt]
                      exact ⟨0, by omega, _, _, _, junk rfl, fin⟩
                · rw [k1, if_pos rfl] at hb
                  rw [Bool.and_eq_true] at k1
                  have hlt3 : k + 1 + 1 < P.L.length := by
                    by_cases hk : k + 1 + 1 < P.L.length
                    · exact hk
                    · rw [j3 hk] at k1; cases k1.1
                  obtain ⟨K3, q3, e3, m3⟩ := zir (e2.more [.cells (vo (y6 P (k + 1 + 1))) 0 false]) hlt3
                  have m3' : Mv P K2 K3 := (Mv.add P K2 _).trans m3
                  have tn3 := tree K3 m3'
                  have fin : BehS P h d R (P.L.length - (k + 1 + 1 + 1) + 1) (K3 ++ [.cells (vd [94] [] n.pl (pt b) nilP false) 0 false]) (k + 1 + 1 + 1) (pt K3.length) :=
                    .inl ⟨.un .inv n, rfl, e3.more _, zzq tn3 (o := .inv) (L := [.cells (vd [94] [] n.pl (pt b) nilP false) 0 false]) (j := 0) rfl (by have := (m12.trans m3').le; omega), ((mK.trans m12).trans m3').more _, hb⟩
                  refine skip _ (fun s1 => ?_) fun s1 => ?_
                  · simp only [z7, zr, yl, zb, zw, zu, z8, zn, ye, zc, zp, xl, yr, w5, zo, zf, ze, zd, List.set_cons_succ, List.set_cons_zero, O_mv, yw, xf, yu, yg, yf, List.map_cons, List.map_nil, zz, zk, wg, y9, yc, yd, yz, wu, Nat.zero_lt_succ, Nat.reduceLT, jy, List.length_cons, List.length_nil, Nat.reduceAdd, Nat.zero_add, zm, yb, zx, za, zi, vq, y0, w8, xc, z6, zl, y4, ya, zq, zj, yy, yq, yk, zy, zs, Nat.add_zero, List.getElem?_cons_zero, eq_self, yh, zt, wo, f6, xk, vz, zej, ok_0 eK, i43, i63, i42, i94, k43, k63, s1, k94, eK.r0, q1, q2, hw, yok, zkg, k1.1, k1.2, e2.r1, q3, root0 K3 m3', f7, yh, zt]
                    exact ⟨_, by omega, _, _, _, junk rfl, fin⟩
                  · simp only [z7, zr, yl, zb, zw, zu, z8, zn, ye, zc, zp, xl, yr, zo, zf, ze, zd, List.set_cons_succ, List.set_cons_zero, O_mv, yw, xf, yu, yg, O_un, yf, List.map_cons, List.map_nil, zz, zk, wg, y9, yc, yd, yz, wu, Nat.zero_lt_succ, Nat.reduceLT, jy, vp, List.length_cons, List.length_nil, Nat.reduceAdd, Nat.zero_add, Bool.not_true, zm, yb, zx, za, zi, vq, y0, w8, xc, z6, zl, y4, ya, zq, zj, yy, yq, yk, zy, zs, Nat.add_zero, List.getElem?_cons_zero, eq_self, yh, zt, wo, f6, xk, vz, zej, ok_0 eK, i43, i63, i42, i94, k43, k63, s1.1, hw1, hbg, s1.2, k94, eK.r0, q1, q2, hw, yok, zkg, k1.1, k1.2, e2.r1, q3, root0 K3 m3', f7, yh, zt]
                    exact ⟨_, by omega, _, _, _, junk rfl, fin⟩
          · rw [k43, k63, k42] at hb
            simp only [Bool.false_eq_true, if_false, if_true] at hb
            rw [Bool.and_eq_true, Bool.not_eq_true'] at k42
            obtain ⟨K1, q1, ht, rt, m', l', hx⟩ := one .star k42.1 hb.symm
            simp only [z7, zr, yl, zb, zw, z8, zn, ye, zc, zp, xl, yr, zo, zf, ze, zd, List.set_cons_succ, List.set_cons_zero, O_mv, yw, xf, yg, O_un, yf, List.map_cons, List.map_nil, zz, zk, wg, y9, yc, yd, yz, wu, Nat.zero_lt_succ, Nat.reduceLT, vp, List.cons_append, List.nil_append, List.length_cons, List.length_nil, Nat.reduceAdd, Nat.zero_add, Bool.not_false, zm, yb, zx, za, zi, vq, y0, w8, xc, z6, xg, y7, zl, y4, ya, zq, zj, yy, yq, yk, zy, zs, List.append_assoc, List.length_append, Nat.add_zero, List.getElem?_cons_zero, List.getElem?_cons_succ, eq_self, yh, zt, wo, f6, xk, jh, ok_0 eK, i43, i63, i42, k43, k63, k42.1, hw1, hbg, k42.2, eK.r0, q1, rt, f7, ht, op1S, yh, zt]
            exact ⟨m', l', _, _, _, junk rfl, hx⟩
        · rw [k43, k63] at hb
          simp only [Bool.false_eq_true, if_false, if_true] at hb
          obtain ⟨K1, q1, ht, rt, m', l', hx⟩ := one .maybe k63 hb.symm
          simp only [z7, zr, yl, zb, zw, z8, zn, ye, zc, zp, yr, wi, zor, zo, zf, ze, zd, List.set_cons_succ, List.set_cons_zero, O_mv, yw, xf, yg, yf, List.map_cons, List.map_nil, zz, zk, wg, y9, yc, yd, yz, wu, Nat.zero_lt_succ, Nat.reduceLT, List.cons_append, List.nil_append, List.length_cons, List.length_nil, Nat.reduceAdd, Nat.zero_add, zm, yb, zx, za, zi, vq, y0, w8, xc, z6, xg, y7, zl, y4, ya, zq, zj, yy, yq, yk, zy, zs, List.append_assoc, List.length_append, Nat.add_zero, List.getElem?_cons_zero, List.getElem?_cons_succ, eq_self, yh, zt, wo, f6, xk, jh, ok_0 eK, i43, i63, k43, k63, eK.r0, q1, rt, f7, ht, op1S, yh, zt]
          exact ⟨m', l', _, _, _, junk rfl, hx⟩
      · rw [k43] at hb
        simp only [if_true] at hb
        obtain ⟨K1, q1, ht, rt, m', l', hx⟩ := one .plus k43 hb.symm
        simp only [z7, zr, yl, zb, zw, z8, zn, ye, zc, zp, wi, zor, zo, zf, ze, zd, List.set_cons_succ, List.set_cons_zero, O_mv, yw, xf, yg, yf, List.map_cons, List.map_nil, zz, zk, wg, y9, yc, yd, yz, wu, Nat.zero_lt_succ, Nat.reduceLT, List.cons_append, List.nil_append, List.length_cons, List.length_nil, Nat.reduceAdd, Nat.zero_add, zm, yb, zx, za, zi, vq, y0, w8, xc, z6, xg, y7, zl, y4, ya, zq, zj, yy, yq, yk, zy, zs, List.append_assoc, List.length_append, Nat.add_zero, List.getElem?_cons_zero, List.getElem?_cons_succ, eq_self, yh, zt, wo, f6, xk, jh, ok_0 eK, i43, k43, eK.r0, q1, rt, f7, ht, op1S, yh, zt]
        exact ⟨m', l', _, _, _, junk rfl, hx⟩
    · simp only [z7, zr, w6, xe, zb, zu, z8, zn, zc, zo, ze, zd, List.set_cons_succ, List.set_cons_zero, O_mv, yf, List.map_cons, List.map_nil, zm, yb, za, yx, yj, zag, xt, fh eK hc, xt, gc]
      rw [hb]
      exact ⟨hc, ⟨k, eK⟩, mK, _, rfl⟩
  · unfold zpa at hR
    cases hp : prim (P.L.drop i) with
    | ok n r =>
      rw [hp] at x0 hR
      obtain ⟨k, rfl, e0, t0, m0⟩ := x0
      refine ⟨h0, k, v0, junk rfl, .inl ⟨n, by simp, e0, t0, m0, ?_⟩⟩
      rw [hR]
      exact zck _ _ _ _ _ (by simp) (Nat.le_refl _)
    | bad c p =>
      rw [hp] at x0 hR
      obtain ⟨hc, ⟨k, e0⟩, m0, b, rfl⟩ := x0
      exact ⟨h0, k, _, junk rfl, .inr ⟨c, p, b, rfl, rfl, hR, hc, e0, m0⟩⟩
theorem yei {P : RP} {post : List Tok → PR Ex} {ts : List Tok} {n : Ex} {k : Nat} (h : post ts = .ok n (P.L.drop k)) : zmg post ts = if keyT (y6 P k) == [42] then (match post (P.L.drop (k + 1)) with | .ok m r2 => .ok (.bin false .cross n m) r2 | .bad c a => .bad c a) else .ok n (P.L.drop k) := by
  unfold zmg
  rw [h]
  by_cases hk : k < P.L.length
  · rw [gz hk]
    all_goals
      simp only
      split
      · cases post (P.L.drop (k + 1)) <;> rfl
      · rfl
  · rw [List.drop_eq_nil_of_le (by omega), j3 hk]; rfl
theorem zym {P : RP} {d : Nat} {post : List Tok → PR Ex} (hF : zcy P jc d post) (hs : Shr post) : zcy P jr d (zmg post) := by
  intro h i e
  refine wz zb6 ?_
  obtain ⟨v0, K, q0, x0⟩ := hF h i e
  have lr := e.lr; have lc := e.lc
  cases hp : post (P.L.drop i) with
  | bad c p =>
    rw [hp] at x0
    obtain ⟨hc, ⟨k, e0⟩, m0, b, rfl⟩ := x0
    have hR : zmg post (P.L.drop i) = .bad c p := by unfold zmg; rw [hp]
    rw [hR]
    simp only [k9, z7, zr, xe, yl, zb, zu, z8, zn, ye, zc, w5, zo, zf, ze, zd, List.set_cons_succ, List.set_cons_zero, O_mv, yw, xf, yf, List.map_cons, List.map_nil, List.cons_append, List.nil_append, List.length_cons, List.length_nil, Nat.reduceSub, Nat.zero_add, zm, yb, za, zh, zg, xt, yi, q0, fh e0 hc, xt, gc]
    exact ⟨hc, ⟨k, e0⟩, m0, _, rfl⟩
  | ok n r0 =>
    rw [hp] at x0
    obtain ⟨k, rfl, eK, tK, mK⟩ := x0
    rw [yei hp]
    have i42 := is_c eK (m := 42) (by decide)
    obtain ⟨b, op, w, l, r, rfl, hbS, hbo⟩ := tK.root
    cases k42 : (keyT (y6 P k) == [42])
    · simp only [k9, z7, zr, xe, yl, zb, zu, z8, zn, ye, zc, xl, zo, zf, ze, zd, List.set_cons_succ, List.set_cons_zero, O_mv, yw, xf, yf, List.map_cons, List.map_nil, List.cons_append, List.nil_append, List.length_cons, List.length_nil, Nat.reduceSub, Nat.zero_add, zm, yb, za, zh, zg, xt, yi, q0, ok_0 eK, i42, k42, xt, gc]
      rw [if_neg Bool.false_ne_true]
      exact ⟨k, rfl, eK, tK, mK⟩
    · rw [if_pos rfl]
      obtain ⟨K1, q1, e1, m1⟩ := zir eK (zm1 (by simp) k42)
      obtain ⟨v2, K2, q2, x2⟩ := hF K1 (k + 1) e1
      have mx : Mv P K1 K2 := by
        cases hp2 : post (P.L.drop (k + 1)) with
        | ok x r' => rw [hp2] at x2; obtain ⟨_, _, _, _, m⟩ := x2; exact m
        | bad c a => rw [hp2] at x2; exact x2.2.2.1
      obtain ⟨b2, rfl⟩ := x2.ptr
      have m12 := m1.trans mx
      have r1 : ∀ j, Heap.read1 K1 ⟨b, j, some 0⟩ = (vd op w n.pl l r n.set)[j]? := fun j => we (m1.keep b _ hbo (by have := hbS.1; omega) (by have := hbS.1; omega))
      have r2 : Heap.read1 K2 ⟨b, 2, some 0⟩ = some (.int .i64 (n.pl : Int)) := we (m12.keep b _ hbo (by have := hbS.1; omega) (by have := hbS.1; omega))
      have a2 : zb2 K2 (.pointer (some ⟨b, 2, some 0⟩)) (.int .i64 (n.pl : Int)) = some (undef, K2) := b6 r2 rfl
      simp only [k9, z7, zr, xe, zb, zw, z8, zn, ye, zc, zp, xl, zo, zf, ze, zd, List.set_cons_succ, List.set_cons_zero, O_mv, yw, xf, yg, yf, List.map_cons, List.map_nil, zz, zk, wg, y9, yc, yd, yz, wu, Nat.zero_lt_succ, Nat.reduceLT, List.cons_append, List.nil_append, List.length_cons, List.length_nil, Nat.reduceAdd, Nat.reduceSub, Nat.zero_add, zm, yb, za, w8, xc, z6, zq, zj, zh, zg, Nat.add_zero, List.getElem?_cons_zero, xt, eq_self, yh, zt, zdb, yi, wo, f6, q0, ok_0 eK, i42, k42, eK.r0, q1, q2, r1, f7, a2, yh, zt, xt, gc]
      cases hp2 : post (P.L.drop (k + 1)) with
      | ok x r' =>
        rw [hp2] at x2
        obtain ⟨k', rfl, e2, t2, _⟩ := x2
        have l1 := m12.le; have l0 := mK.le; have lm := m1.le; have lx := mx.le
        refine ⟨k', rfl, e2.more _, ?_, (mK.trans m12).more _⟩
        refine ⟨K2.length, Iv h.length K.length, Iv K1.length K2.length, pt b, pt b2, rfl, ⟨by omega, by simp⟩, by simp [vd, op2S], ?_, t2.keep fun c o hc ho => xa _ ho, ?_, ?_⟩
        · exact (tK.keep fun c o hc ho => m12.keep c o ho (by have := hc.1; omega) (by have := hc.1; omega)).keep fun c o hc ho => xa _ ho
        · intro z hz
          have := hz.1; have := hz.2
          exact ⟨⟨by omega, by simp; omega⟩, by omega, fun h3 => by have := h3.1; omega⟩
        · intro z hz
          have := hz.1; have := hz.2
          exact ⟨⟨by omega, by simp; omega⟩, by omega⟩
      | bad c a =>
        rw [hp2] at x2
        obtain ⟨hc, ⟨k', e2⟩, _, _⟩ := x2
        exact ⟨hc, ⟨k', e2.more _⟩, (mK.trans m12).more _, _, rfl⟩
theorem Rd.upd {P : RP} {h K : Heap} {i d x a i' d' x' a' b : Nat} (e : Rd P h i d x a) (eK : Rd P K i' d' x' a') (hb : h.length ≤ b) (o : AObj) : Rd P (K.set b o) i' d' x' a' := by
  have lr := e.lr; have lc := e.lc
  refine ⟨?_, ?_, ?_, ?_, eK.le⟩
  · rw [List.getElem?_set_ne (by omega)]; exact eK.hr
  · rw [List.getElem?_set_ne (by omega)]; exact eK.hc
  · exact eK.sw.keep fun c hc o' ho => by rw [List.getElem?_set_ne (by have := e.sw.lt hc; omega)]; exact ho
  · exact eK.sc.keep fun c hc o' ho => by rw [List.getElem?_set_ne (by have := e.sc.lt hc; omega)]; exact ho
theorem Mv.upd {P : RP} {h K : Heap} {b : Nat} (m : Mv P h K) (hb : h.length ≤ b) (o : AObj) : Mv P h (K.set b o) :=
  ⟨fun c o' ho n1 n2 => by rw [List.getElem?_set_ne (by have := (List.getElem?_eq_some_iff.1 ho).1; omega)]; exact m.keep c o' ho n1 n2, by rw [List.length_set]; exact m.le⟩
theorem yf1 {P : RP} {t : Tok} {f : List Tok → PR Ex} {ts : List Tok} {n : Ex} {k : Nat} (h : f ts = .ok n (P.L.drop k)) : brkP P.en t ts (some f) = if keyT t == [40] then (if keyT (y6 P k) == [41] then .ok (.par false t.at_ n) (P.L.drop (k + 1)) else .bad (zap P k) (za7 P k)) else (if keyT (y6 P k) == [93] then .ok (.box t.at_ n) (P.L.drop (k + 1)) else .bad (zap P k) (za7 P k)) := by
  have c : ∀ (cl : Bys) (x : Ex), cl ≠ [] → zlu P.en cl x (P.L.drop k) = if keyT (y6 P k) == cl then .ok x (P.L.drop (k + 1)) else .bad (zap P k) (za7 P k) := fun cl x hcl => by
    unfold zap za7
    by_cases hk : k < P.L.length
    · rw [gz hk, zlu, if_pos hk, if_pos hk]
    · rw [List.drop_eq_nil_of_le (by omega), j3 hk, if_neg hk, if_neg hk, zlu, zer]
      rw [if_neg (by simpa using hcl)]
  rw [brkP, h]
  simp only [brP]
  rw [c _ _ (by simp), c _ _ (by simp)]
theorem yen {P : RP} {t : Tok} {f : List Tok → PR Ex} {ts : List Tok} {c a : Nat} (h : f ts = .bad c a) : brkP P.en t ts (some f) = .bad c a := by
  rw [brkP, h]; simp only [brP]; split <;> rfl
def zmc (P : RP) (d : Nat) : Option (List Tok → PR Ex) → Prop
  | none => 32 ≤ d
  | some f => d < 32 ∧ zcy P xz (d + 1) f
theorem yeu (P : RP) (inner : Option (List Tok → PR Ex)) (k : Nat) : zkc P.en inner (P.L.drop k) = if keyT (y6 P k) == [40] || keyT (y6 P k) == [91] then brkP P.en (y6 P k) (P.L.drop (k + 1)) inner
    else if (y6 P k).kind == 2 && (y6 P k).n == 0 then .ok (.zero (y6 P k).at_) (P.L.drop (k + 1))
    else if za9 (y6 P k) then .ok (.name false (y6 P k).at_ (y6 P k).text) (P.L.drop (k + 1))
    else .bad (zap P k) (za7 P k) := by
  unfold zap za7
  by_cases hk : k < P.L.length
  · rw [gz hk, zkc, if_pos hk, if_pos hk]
  · rw [List.drop_eq_nil_of_le (by omega), j3 hk, if_neg hk, if_neg hk]; rfl
set_option maxHeartbeats 4000000 in
theorem yfz {P : RP} {d : Nat} {inner : Option (List Tok → PR Ex)} (hin : zmc P d inner) : zcy P gi d (zkc P.en inner) := by
  intro h i e
  refine wz zed ?_
  have lr := e.lr; have lc := e.lc
  have hw := zjy e 0 (by omega)
  rw [Nat.add_zero, Int.cast_ofNat_Int] at hw
  have i40 := is_c (e.more [.cells (vo (y6 P i)) 0 false, .cells [str [], str [], .int .i64 (atV P i), nilP, nilP, .bool false] 0 false]) (m := 40) (by decide)
  have i91 := is_c (e.more [.cells (vo (y6 P i)) 0 false, .cells [str [], str [], .int .i64 (atV P i), nilP, nilP, .bool false] 0 false]) (m := 91) (by decide)
  have e0 := e.more [.cells (vo (y6 P i)) 0 false, .cells [str [], str [], .int .i64 (atV P i), nilP, nilP, .bool false] 0 false]
  have m0 : Mv P h (h ++ [.cells (vo (y6 P i)) 0 false, .cells [str [], str [], .int .i64 (atV P i), nilP, nilP, .bool false] 0 false]) := Mv.add P h _
  obtain ⟨H0, hH0⟩ : ∃ H0, H0 = h ++ [AObj.cells (vo (y6 P i)) 0 false, .cells [str [], str [], .int .i64 (atV P i), nilP, nilP, .bool false] 0 false] := ⟨_, rfl⟩
  have o1 : H0[h.length]? = some (.cells (vo (y6 P i)) 0 false) := by rw [hH0]; simp
  have o2 : H0[h.length + 1]? = some (.cells [str [], str [], .int .i64 (atV P i), nilP, nilP, .bool false] 0 false) := by rw [hH0]; simp
  have l2 : H0.length = h.length + 2 := by rw [hH0]; simp
  rw [← hH0] at i40 i91 e0 m0
  have t1 : ∀ K, Mv P H0 K → ∀ j, Heap.read1 K ⟨h.length, j, some 0⟩ = (vo (y6 P i))[j]? := fun K m j => we (m.keep _ _ o1 (by omega) (by omega))
  have t2 : ∀ K, Mv P H0 K → K[h.length + 1]? = some (.cells [str [], str [], .int .i64 (atV P i), nilP, nilP, .bool false] 0 false) := fun K m => m.keep _ _ o2 (by omega) (by omega)
  rw [yeu]
  have hat : i < P.L.length → atV P i = ((y6 P i).at_ : Int) := fun hk => by unfold atV; rw [if_pos hk]
  cases hbr : (keyT (y6 P i) == [40] || keyT (y6 P i) == [91])
  · rw [if_neg Bool.false_ne_true]
    rw [Bool.or_eq_false_iff] at hbr
    cases h0 : ((y6 P i).kind == 2 && (y6 P i).n == 0)
    · rw [if_neg Bool.false_ne_true]
      have skip : ∀ (Q : Prop), (((y6 P i).kind == 2) = false → Q) → (((y6 P i).kind == 2) = true ∧ ((y6 P i).n == 0) = false → Q) → Q := fun Q a b => by
        cases h1 : ((y6 P i).kind == 2)
        · exact a h1
        · rw [h1, Bool.true_and] at h0; exact b ⟨h1, h0⟩
      cases hn : za9 (y6 P i)
      · rw [if_neg Bool.false_ne_true]
        obtain ⟨K, q, eK, mK⟩ := zfu e0
        have fin : ExR P h d (pt (h.length + 1)) K (.bad (zap P i) (za7 P i)) := ⟨fk P i, ⟨i, eK⟩, m0.trans mK, _, rfl⟩
        have hn2 : (((y6 P i).kind : Int) == 1) = false ∨ (((y6 P i).kind : Int) == 1) = true ∧ kwL.contains (y6 P i).text = true := by
          have k1 : (((y6 P i).kind : Int) == 1) = ((y6 P i).kind == 1) := by rw [Bool.eq_iff_iff]; simp; omega
          rw [k1]; unfold za9 at hn
          cases hk : ((y6 P i).kind == 1)
          · exact .inl rfl
          · rw [hk, Bool.true_and, Bool.not_eq_false'] at hn; exact .inr ⟨rfl, hn⟩
        refine skip _ (fun s1 => ?_) fun s1 => ?_
        · rcases hn2 with hn2 | ⟨hn2, hn3⟩
          · simp only [wx, z7, zr, xe, zb, zu, z8, zn, ye, zc, zp, yr, w5, zo, zf, ze, zd, List.set_cons_succ, List.set_cons_zero, O_mv, yw, xf, yu, yg, O_un, yf, List.map_cons, List.map_nil, zz, zk, wg, y9, yc, yd, yz, wu, Nat.reduceLT, jy, vp, List.cons_append, List.nil_append, List.length_cons, List.length_nil, Nat.reduceAdd, Nat.reduceSub, Nat.zero_add, Bool.not_true, zm, yb, zx, za, zi, y0, w8, xc, z6, zl, y4, ya, zq, zj, yk, zy, zs, zh, zg, List.append_assoc, List.length_append, Nat.add_zero, List.getElem?_cons_zero, xt, eq_self, yh, zt, yi, xk, vz, hw, e.r1, at_c (e.more _), yh, zt, ← hH0, ok_0 e0, i40, i91, hbr.1, hbr.2, t1 H0 (Mv.refl P H0), zkg, s1, hn2, q, xt, gc]
            exact fin
          · simp only [wx, z7, zr, xe, zb, zu, z8, zn, ye, zc, zp, xl, yr, w5, zo, zf, ze, zd, List.set_cons_succ, List.set_cons_zero, O_mv, yw, xf, yu, yg, O_un, yf, List.map_cons, List.map_nil, zz, zk, wg, y9, yc, yd, yz, wu, Nat.reduceLT, jy, vp, List.cons_append, List.nil_append, List.length_cons, List.length_nil, Nat.reduceAdd, Nat.reduceSub, Nat.zero_add, Bool.not_true, zm, yb, zx, za, zi, y0, w8, xc, z6, zl, y4, ya, zq, zj, yk, zy, zs, zh, zg, List.append_assoc, List.length_append, Nat.add_zero, List.getElem?_cons_zero, xt, eq_self, yh, zt, yi, xk, vz, jh, hw, e.r1, at_c (e.more _), yh, zt, ← hH0, ok_0 e0, i40, i91, hbr.1, hbr.2, t1 H0 (Mv.refl P H0), zkg, s1, hn2, zcl, hn3, q, xt, gc]
            exact fin
        · rcases hn2 with hn2 | ⟨hn2, hn3⟩
          · simp only [wx, z7, zr, xe, zb, zu, z8, zn, ye, zc, zp, xl, yr, w5, zo, zf, ze, zd, List.set_cons_succ, List.set_cons_zero, O_mv, yw, xf, yu, yg, O_un, yf, List.map_cons, List.map_nil, zz, zk, wg, y9, yc, yd, yz, wu, Nat.reduceLT, jy, vp, List.cons_append, List.nil_append, List.length_cons, List.length_nil, Nat.reduceAdd, Nat.reduceSub, Nat.zero_add, Bool.not_true, zm, yb, zx, za, zi, y0, w8, xc, z6, zl, y4, ya, zq, zj, yk, zy, zs, zh, zg, List.append_assoc, List.length_append, Nat.add_zero, List.getElem?_cons_zero, xt, eq_self, yh, zt, yi, xk, vz, zej, hw, e.r1, at_c (e.more _), yh, zt, ← hH0, ok_0 e0, i40, i91, hbr.1, hbr.2, t1 H0 (Mv.refl P H0), zkg, s1.1, s1.2, hn2, q, xt, gc]
            exact fin
          · simp only [wx, z7, zr, xe, zb, zu, z8, zn, ye, zc, zp, xl, yr, zo, zf, ze, zd, List.set_cons_succ, List.set_cons_zero, O_mv, yw, xf, yu, yg, O_un, yf, List.map_cons, List.map_nil, zz, zk, wg, y9, yc, yd, yz, wu, Nat.reduceLT, jy, vp, List.cons_append, List.nil_append, List.length_cons, List.length_nil, Nat.reduceAdd, Nat.reduceSub, Nat.zero_add, Bool.not_true, zm, yb, zx, za, zi, y0, w8, xc, z6, zl, y4, ya, zq, zj, yk, zy, zs, zh, zg, List.append_assoc, List.length_append, Nat.add_zero, List.getElem?_cons_zero, xt, eq_self, yh, zt, yi, xk, vz, jh, zej, hw, e.r1, at_c (e.more _), yh, zt, ← hH0, ok_0 e0, i40, i91, hbr.1, hbr.2, t1 H0 (Mv.refl P H0), zkg, s1.1, s1.2, hn2, zcl, hn3, q, xt, gc]
            exact fin
      · rw [if_pos rfl]
        have hlt := zui P i hn
        obtain ⟨K, q, eK, mK⟩ := zir e0 hlt
        have hk1 : (((y6 P i).kind : Int) == 1) = true ∧ kwL.contains (y6 P i).text = false := by
          unfold za9 at hn
          rw [Bool.and_eq_true, beq_iff_eq, Bool.not_eq_true'] at hn
          exact ⟨by rw [hn.1]; rfl, hn.2⟩
        have s1 : ((y6 P i).kind == 2) = false := by
          have := hk1.1; rw [beq_iff_eq] at this; rw [beq_eq_false_iff_ne]; omega
        have oK := t2 K mK
        have hlK := (List.getElem?_eq_some_iff.1 oK).1
        have r1 := t1 K mK
        have r2 : ∀ l, Heap.read1 (K.set (h.length + 1) (.cells l 0 false)) ⟨h.length, 1, some 0⟩ = some (str (y6 P i).text) := fun l => by
          rw [yb4 (by simp), r1]; rfl
        have a1 : ∀ l, zb2 (K.set (h.length + 1) (.cells l 0 false)) (.pointer (some ⟨h.length, 1, some 0⟩)) (str (y6 P i).text) = some (undef, K.set (h.length + 1) (.cells l 0 false)) := fun l => b6 (r2 l) rfl
        simp only [wx, z7, zr, xe, zb, zw, zu, z8, zn, ye, zc, zp, xl, yr, w5, zo, zf, ze, zd, List.set_cons_succ, List.set_cons_zero, O_mv, yw, xf, yu, yg, O_un, yf, List.map_cons, List.map_nil, zz, zk, wg, y9, yc, yd, yz, wu, Nat.zero_lt_succ, Nat.reduceLT, jy, vp, List.cons_append, List.nil_append, List.length_cons, List.length_nil, Nat.reduceAdd, Nat.reduceSub, Nat.zero_add, Bool.not_true, Bool.not_false, zm, yb, zx, za, zi, y0, w8, xc, z6, zl, xd, y4, ya, zq, zj, yk, zy, zs, zh, zg, List.append_assoc, List.length_append, Nat.add_zero, List.getElem?_cons_zero, xt, eq_self, yh, zt, zdb, yi, wk, xk, vz, jh, hw, e.r1, at_c (e.more _), yh, zt, ← hH0, ok_0 e0, i40, i91, hbr.1, hbr.2, t1 H0 (Mv.refl P H0), zkg, s1, hk1.1, zcl, hk1.2, e0.r0, q, r1, ph oK, a1, zhk hlK, xt, gc]
        refine ⟨i + 1, rfl, e.upd eK (by omega) _, ⟨h.length + 1, rfl, ⟨by omega, by rw [List.length_set]; exact hlK⟩, ?_⟩, (m0.trans mK).upd (by omega) _⟩
        rw [List.getElem?_set_self hlK, hat hlt]; rfl
    · rw [if_pos rfl]
      rw [Bool.and_eq_true] at h0
      have hlt : i < P.L.length := by
        by_cases hk : i < P.L.length
        · exact hk
        · rw [j3 hk] at h0; cases h0.1
      obtain ⟨K, q, eK, mK⟩ := zir e0 hlt
      have oK := t2 K mK
      have hlK := (List.getElem?_eq_some_iff.1 oK).1
      simp only [wx, z7, zr, xe, zb, zw, zu, z8, zn, ye, zc, zp, xl, yr, zo, zf, ze, zd, List.set_cons_succ, List.set_cons_zero, O_mv, yw, xf, yu, yg, O_un, yf, List.map_cons, List.map_nil, zz, zk, wg, y9, yc, yd, yz, wu, Nat.zero_lt_succ, Nat.reduceLT, jy, vp, List.cons_append, List.nil_append, List.length_cons, List.length_nil, Nat.reduceAdd, Nat.reduceSub, Nat.zero_add, Bool.not_true, zm, yb, zx, za, zi, y0, w8, xc, z6, zl, xd, y4, ya, zq, zj, yk, zy, zs, zh, zg, List.append_assoc, List.length_append, Nat.add_zero, List.getElem?_cons_zero, xt, eq_self, yh, zt, yi, wk, xk, vz, zej, hw, e.r1, at_c (e.more _), yh, zt, ← hH0, ok_0 e0, i40, i91, hbr.1, hbr.2, t1 H0 (Mv.refl P H0), zkg, h0.1, h0.2, e0.r0, q, ph oK, xt, gc]
      refine ⟨i + 1, rfl, e.upd eK (by omega) _, ⟨h.length + 1, rfl, ⟨by omega, by rw [List.length_set]; exact hlK⟩, ?_⟩, (m0.trans mK).upd (by omega) _⟩
      rw [List.getElem?_set_self hlK, hat hlt]; rfl
  · rw [if_pos rfl]
    have brk : ∀ (Q : Prop), ((keyT (y6 P i) == [40]) = true ∧ (y6 P i).text = [40] → Q) → ((keyT (y6 P i) == [40]) = false ∧ (keyT (y6 P i) == [91]) = true ∧ (y6 P i).text = [91] → Q) → Q := fun Q a b => by
      cases h1 : (keyT (y6 P i) == [40])
      · rw [h1, Bool.false_or] at hbr
        exact b ⟨h1, hbr, (zel (by simp) hbr).1⟩
      · exact a ⟨h1, (zel (by simp) h1).1⟩
    have hlt : i < P.L.length := by
      rw [Bool.or_eq_true] at hbr
      rcases hbr with hbr | hbr <;> exact zm1 (by simp) hbr
    have rt : Heap.read1 H0 ⟨h.length, 3, some 0⟩ = some (.int .i64 ((y6 P i).at_ : Int)) := by rw [t1 H0 (Mv.refl P H0)]; rfl
    cases inner with
    | none =>
      have hd : 32 ≤ d := hin
      have c1 : ((32 : Int) ≤ (d : Int)) = True := by simp; omega
      obtain ⟨K, q, eK, mK⟩ := zjx e0 2 (y6 P i).at_ (by omega)
      simp only [Int.cast_ofNat_Int] at q
      have fin : ExR P h d (pt (h.length + 1)) K (brkP P.en (y6 P i) (P.L.drop (i + 1)) none) := ⟨by omega, ⟨i, eK⟩, m0.trans mK, _, rfl⟩
      refine brk _ (fun b1 => ?_) fun b1 => ?_
      · simp only [wx, z7, zr, xe, zb, zw, zu, z8, zn, ye, zc, zp, wi, zo, zf, ze, zd, List.set_cons_succ, List.set_cons_zero, O_mv, yw, xf, yu, yg, O_un, yf, List.map_cons, List.map_nil, zz, zk, wg, y9, yc, yd, yz, wu, Nat.reduceLT, zbb, vp, List.cons_append, List.nil_append, List.length_cons, List.length_nil, Nat.reduceAdd, Nat.reduceSub, Nat.zero_add, Bool.not_true, zm, yb, zx, za, y5, xx, y0, w8, xc, z6, zl, y4, ya, zq, zj, yk, zy, zs, zh, zg, List.append_assoc, List.length_append, Nat.add_zero, List.getElem?_cons_zero, List.getElem?_cons_succ, xt, eq_self, yh, zt, yi, decide_true, xk, hw, e.r1, at_c (e.more _), yh, zt, ← hH0, ok_0 e0, i40, b1.1, e0.r0, c1, decide_true, rt, q, xt, gc]
        exact fin
      · simp only [wx, z7, zr, xe, zb, zw, zu, z8, zn, ye, zc, zp, yr, zo, zf, ze, zd, List.set_cons_succ, List.set_cons_zero, O_mv, yw, xf, yu, yg, O_un, yf, List.map_cons, List.map_nil, zz, zk, wg, y9, yc, yd, yz, wu, Nat.reduceLT, zbb, vp, List.cons_append, List.nil_append, List.length_cons, List.length_nil, Nat.reduceAdd, Nat.reduceSub, Nat.zero_add, Bool.not_true, zm, yb, zx, za, y5, xx, y0, w8, xc, z6, zl, y4, ya, zq, zj, yk, zy, zs, zh, zg, List.append_assoc, List.length_append, Nat.add_zero, List.getElem?_cons_zero, List.getElem?_cons_succ, xt, eq_self, yh, zt, yi, decide_true, xk, hw, e.r1, at_c (e.more _), yh, zt, ← hH0, ok_0 e0, i40, i91, b1.1, b1.2.1, e0.r0, c1, decide_true, rt, q, xt, gc]
        exact fin
    | some f =>
      obtain ⟨hd, hF⟩ := hin
      have c1 : ((32 : Int) ≤ (d : Int)) = False := by simp; omega
      obtain ⟨K1, q1, e1, m1⟩ := zir e0 hlt
      obtain ⟨e1', m1'⟩ := e1.setR (d + 1) 0 0
      have w1 : IntKind.i64.wrap ((d : Int) + 1) = ((d + 1 : Nat) : Int) := xm (by omega)
      have wr1 := e1.wr0 3 (by omega) (.int .i64 ((d + 1 : Nat) : Int))
      simp only [List.set_cons_succ, List.set_cons_zero] at wr1
      obtain ⟨K1', hK1'⟩ : ∃ K, K = K1.set P.r (.cells [pt P.c, P.ws, .int .i64 (P.en : Int), .int .i64 ((d + 1 : Nat) : Int), .int .i64 ((0 : Nat) : Int), .int .i64 ((0 : Nat) : Int)] 0 false) := ⟨_, rfl⟩
      rw [← hK1'] at e1' m1' wr1
      obtain ⟨v, K2, q2, x2⟩ := hF K1' (i + 1) e1'
      obtain ⟨b2, rfl⟩ := x2.ptr
      have m2 : Mv P K1' K2 := by
        cases hp : f (P.L.drop (i + 1)) with
        | ok x r' => rw [hp] at x2; obtain ⟨_, _, _, _, m⟩ := x2; exact m
        | bad c a => rw [hp] at x2; exact x2.2.2.1
      have m02 : Mv P H0 K2 := (m1.trans m1').trans m2
      have w2 : IntKind.i64.wrap (((d + 1 : Nat) : Int) - 1) = (d : Int) := by rw [zga (by unfold W; omega)]; omega
      cases hp : f (P.L.drop (i + 1)) with
      | bad c a =>
        rw [hp] at x2
        obtain ⟨hc, ⟨k, e2⟩, _, _⟩ := x2
        rw [yen hp]
        obtain ⟨e2', m2'⟩ := e2.setR d c a
        have wr2 := e2.wr0 3 (by omega) (.int .i64 (d : Int))
        simp only [List.set_cons_succ, List.set_cons_zero] at wr2
        obtain ⟨K2', hK2'⟩ : ∃ K, K = K2.set P.r (.cells [pt P.c, P.ws, .int .i64 (P.en : Int), .int .i64 (d : Int), .int .i64 (c : Int), .int .i64 (a : Int)] 0 false) := ⟨_, rfl⟩
        rw [← hK2'] at e2' m2' wr2
        have m02' := m02.trans m2'
        have oK := t2 K2' m02'
        have hlK := (List.getElem?_eq_some_iff.1 oK).1
        have r1 := t1 K2' m02'
        refine brk _ (fun b1 => ?_) fun b1 => ?_
        · simp only [wx, z7, zr, xe, yl, zb, zw, zu, z8, zn, ye, zc, zp, wi, zo, zf, ze, zd, List.set_cons_succ, List.set_cons_zero, O_mv, yw, xf, yu, yg, O_un, yf, List.map_cons, List.map_nil, zz, zk, wg, y9, yc, yd, yz, wu, Nat.zero_lt_succ, Nat.reduceLT, vj, zr7, zbb, vp, List.cons_append, List.nil_append, List.length_cons, List.length_nil, Nat.reduceAdd, Nat.reduceSub, Nat.zero_add, Bool.not_true, zm, yb, zx, za, y5, xx, y0, w8, xc, z6, zl, xd, x5, qg, y4, ya, zq, zj, yk, zy, zs, zh, zg, List.append_assoc, List.length_append, Nat.add_zero, List.getElem?_cons_zero, List.getElem?_cons_succ, xt, beq_self_eq_true, eq_self, yh, zt, yi, wk, w9, decide_false, xk, jh, hw, e.r1, at_c (e.more _), yh, zt, ← hH0, ok_0 e0, i40, b1.1, b1.2, e0.r0, c1, decide_false, q1, e1.r0, w1, wr1, q2, e2.r0, w2, wr2, r1, zr5 e2' hc, ph oK, zhk hlK, xt, gc]
          exact ⟨hc, ⟨k, e.upd e2' (by omega) _⟩, (m0.trans m02').upd (by omega) _, _, rfl⟩
        · simp only [wx, z7, zr, xe, yl, zb, zw, zu, z8, zn, ye, zc, zp, yr, zo, zf, ze, zd, List.set_cons_succ, List.set_cons_zero, O_mv, yw, xf, yu, yg, O_un, yf, List.map_cons, List.map_nil, zz, zk, wg, y9, yc, yd, yz, wu, Nat.zero_lt_succ, Nat.reduceLT, vj, zr7, zbb, vp, List.cons_append, List.nil_append, List.length_cons, List.length_nil, Nat.reduceAdd, Nat.reduceSub, Nat.zero_add, Bool.not_true, zm, yb, zx, za, zi, y0, w8, xc, z6, zl, xd, x5, qg, y4, ya, zq, zj, yk, zy, zs, zh, zg, List.append_assoc, List.length_append, Nat.add_zero, List.getElem?_cons_zero, List.getElem?_cons_succ, xt, eq_self, yh, zt, yi, wk, w9, decide_false, xk, jh, hw, e.r1, at_c (e.more _), yh, zt, ← hH0, ok_0 e0, i40, i91, b1.1, b1.2.1, b1.2.2, e0.r0, c1, decide_false, q1, e1.r0, w1, wr1, q2, e2.r0, w2, wr2, r1, zr5 e2' hc, ph oK, zhk hlK, show (([91] : Bys) == [40]) = false from rfl, xt, gc]
          exact ⟨hc, ⟨k, e.upd e2' (by omega) _⟩, (m0.trans m02').upd (by omega) _, _, rfl⟩
      | ok n r0 =>
        rw [hp] at x2
        obtain ⟨k, rfl, e2, tn, _⟩ := x2
        rw [yf1 hp]
        obtain ⟨e2', m2'⟩ := e2.setR d 0 0
        have wr2 := e2.wr0 3 (by omega) (.int .i64 (d : Int))
        simp only [List.set_cons_succ, List.set_cons_zero] at wr2
        obtain ⟨K2', hK2'⟩ : ∃ K, K = K2.set P.r (.cells [pt P.c, P.ws, .int .i64 (P.en : Int), .int .i64 (d : Int), .int .i64 ((0 : Nat) : Int), .int .i64 ((0 : Nat) : Int)] 0 false) := ⟨_, rfl⟩
        rw [← hK2'] at e2' m2' wr2
        have m02' := m02.trans m2'
        have lK1 : K1'.length = K1.length := by rw [hK1', List.length_set]
        have lK2 : K2'.length = K2.length := by rw [hK2', List.length_set]
        have la := m1.le; have lb := m2.le
        have tree : ∀ K3 (l : List Value), Mv P K2' K3 → TreeP (K3.set (h.length + 1) (.cells l 0 false)) (Iv K1'.length K2.length) (pt b2) n := fun K3 l m3 =>
          tn.keep fun c o hc ho => by
            have := hc.1
            rw [List.getElem?_set_ne (by omega)]
            exact (m2'.trans m3).keep c o ho (by omega) (by omega)
        have ends : ∀ K3 (l : List Value) (cl : Bys), Mv P K2' K3 → ∀ y, Iv K1'.length K2.length y → Iv h.length (K3.set (h.length + 1) (.cells l 0 false)).length y ∧ y ≠ h.length + 1 := fun K3 l cl m3 y hy => by
          have := hy.1; have := hy.2; have := m3.le
          exact ⟨⟨by omega, by rw [List.length_set]; omega⟩, by omega⟩
        refine brk _ (fun b1 => ?_) fun b1 => ?_
        · rw [if_pos b1.1]
          obtain ⟨K3, q3, e3, m3⟩ := zun e2' (m := [41]) (by simp)
          have m03 := m02'.trans m3
          have oK := t2 K3 m03
          have hlK := (List.getElem?_eq_some_iff.1 oK).1
          simp only [wx, z7, zr, xe, yl, zb, zw, zu, z8, zn, ye, zc, zp, wi, zo, zf, ze, zd, List.set_cons_succ, List.set_cons_zero, O_mv, yw, xf, yu, yg, O_un, yf, List.map_cons, List.map_nil, zz, zk, wg, y9, yc, yd, yz, wu, Nat.zero_lt_succ, Nat.reduceLT, vj, zr7, zbb, vp, List.cons_append, List.nil_append, List.length_cons, List.length_nil, Nat.reduceAdd, Nat.reduceSub, Nat.zero_add, Bool.not_true, zm, yb, zx, za, y5, xx, y0, w8, xc, z6, zl, xd, x5, qg, y4, ya, zq, zj, yk, zy, zs, zh, zg, List.append_assoc, List.length_append, Nat.add_zero, List.getElem?_cons_zero, List.getElem?_cons_succ, xt, beq_self_eq_true, eq_self, yh, zt, yi, wk, w9, decide_false, xk, jh, hw, e.r1, at_c (e.more _), yh, zt, ← hH0, ok_0 e0, i40, b1.1, b1.2, e0.r0, c1, decide_false, q1, e1.r0, w1, wr1, q2, e2.r0, w2, wr2, t1 K2' m02', q3, ph oK, zhk hlK, xt, gc]
          cases k41 : (keyT (y6 P k) == [41])
          · rw [k41, if_neg Bool.false_ne_true] at e3
            rw [if_neg Bool.false_ne_true]
            exact ⟨fk P k, ⟨k, e.upd e3 (by omega) _⟩, (m0.trans m03).upd (by omega) _, _, rfl⟩
          · rw [k41, if_pos rfl] at e3
            rw [if_pos rfl]
            refine ⟨k + 1, rfl, e.upd e3 (by omega) _, ⟨h.length + 1, _, pt b2, rfl, ⟨by omega, by rw [List.length_set]; exact hlK⟩, ?_, tree K3 _ m3, ends K3 _ [41] m3⟩, (m0.trans m03).upd (by omega) _⟩
            rw [List.getElem?_set_self hlK, hat hlt]; rfl
        · rw [if_neg (by rw [b1.1]; exact Bool.false_ne_true)]
          obtain ⟨K3, q3, e3, m3⟩ := zun e2' (m := [93]) (by simp)
          have m03 := m02'.trans m3
          have oK := t2 K3 m03
          have hlK := (List.getElem?_eq_some_iff.1 oK).1
          simp only [wx, z7, zr, xe, yl, zb, zw, zu, z8, zn, ye, zc, zp, yr, zo, zf, ze, zd, List.set_cons_succ, List.set_cons_zero, O_mv, yw, xf, yu, yg, O_un, yf, List.map_cons, List.map_nil, zz, zk, wg, y9, yc, yd, yz, wu, Nat.zero_lt_succ, Nat.reduceLT, vj, zr7, zbb, vp, List.cons_append, List.nil_append, List.length_cons, List.length_nil, Nat.reduceAdd, Nat.reduceSub, Nat.zero_add, Bool.not_true, zm, yb, zx, za, zi, y0, w8, xc, z6, zl, xd, x5, qg, y4, ya, zq, zj, yk, zy, zs, zh, zg, List.append_assoc, List.length_append, Nat.add_zero, List.getElem?_cons_zero, List.getElem?_cons_succ, xt, eq_self, yh, zt, yi, wk, w9, decide_false, xk, jh, hw, e.r1, at_c (e.more _), yh, zt, ← hH0, ok_0 e0, i40, i91, b1.1, b1.2.1, b1.2.2, e0.r0, c1, decide_false, q1, e1.r0, w1, wr1, q2, e2.r0, w2, wr2, t1 K2' m02', q3, ph oK, zhk hlK, show (([91] : Bys) == [40]) = false from rfl, xt, gc]
          cases k41 : (keyT (y6 P k) == [93])
          · rw [k41, if_neg Bool.false_ne_true] at e3
            rw [if_neg Bool.false_ne_true]
            exact ⟨fk P k, ⟨k, e.upd e3 (by omega) _⟩, (m0.trans m03).upd (by omega) _, _, rfl⟩
          · rw [k41, if_pos rfl] at e3
            rw [if_pos rfl]
            refine ⟨k + 1, rfl, e.upd e3 (by omega) _, ⟨h.length + 1, _, pt b2, rfl, ⟨by omega, by rw [List.length_set]; exact hlK⟩, ?_, tree K3 _ m3, ends K3 _ [41] m3⟩, (m0.trans m03).upd (by omega) _⟩
            rw [List.getElem?_set_self hlK, hat hlt]; rfl
theorem zo5 {t : Tok} (ht : zrm t) {m : UInt8} (hm : (letV (m.toNat : Int) || (m.toNat : Int) == 95) = false) : ((t.kind : Int) == 3 && t.text == [m]) = (keyT t == [m]) := by
  have hk : ((t.kind : Int) == 3) = decide (t.kind = 3) := by rw [Bool.eq_iff_iff]; simp; omega
  rw [hk]
  unfold keyT
  rcases ht with ⟨h1, c, l, h2, h3⟩ | h1 | ⟨h1, c, l, h2, h3⟩
  · have hne : ((c :: l : Bys) == [m]) = false := by
      rw [beq_eq_false_iff_ne]; intro he; cases he; rw [hm] at h3; cases h3
    rw [h2]
    simp only [h1, hne, Nat.reduceEqDiff, decide_false, Bool.false_and, if_false]
  · simp [h1]
  · simp [h1]
theorem ycl : MarksOk [[124]] orM := ⟨rfl, by decide, fun t ht => by
  have h := zo5 ht (m := 124) (by decide)
  refine ⟨?_, fun o ho => ?_⟩
  · rw [show ([[124]] : List Bys).contains t.text = (t.text == [124]) by rw [Bool.eq_iff_iff]; simp, h]; unfold orM; split <;> simp_all
  · unfold orM at ho
    split at ho
    · rename_i hk; cases ho; exact (zel (by simp) hk).1.symm
    · cases ho⟩
theorem zxl : MarksOk [[59]] seqM := ⟨rfl, by decide, fun t ht => by
  have h := zo5 ht (m := 59) (by decide)
  refine ⟨?_, fun o ho => ?_⟩
  · rw [show ([[59]] : List Bys).contains t.text = (t.text == [59]) by rw [Bool.eq_iff_iff]; simp, h]; unfold seqM; split <;> simp_all
  · unfold seqM at ho
    split at ho
    · rename_i hk; cases ho; exact (zel (by simp) hk).1.symm
    · cases ho⟩
theorem zyg : MarksOk [[38], [92]] andM := ⟨rfl, by decide, fun t ht => by
  have h := zo5 ht (m := 38) (by decide)
  have h' := zo5 ht (m := 92) (by decide)
  refine ⟨?_, fun o ho => ?_⟩
  · rw [show ([[38], [92]] : List Bys).contains t.text = (t.text == [38] || t.text == [92]) by rw [Bool.eq_iff_iff]; simp, Bool.and_or_distrib_left, h, h']
    unfold andM
    cases (keyT t == [38]) <;> cases (keyT t == [92]) <;> rfl
  · unfold andM at ho
    split at ho
    · rename_i hk; cases ho; exact (zel (by simp) hk).1.symm
    · split at ho
      · rename_i hk; cases ho; exact (zel (by simp) hk).1.symm
      · cases ho⟩
theorem zvr {P : RP} {h : Heap} {i d x a : Nat} (e : Rd P h i d x a) (n c : Nat) : blk (.slice (some ⟨h.length, 0, some 0⟩) n c) ≠ some P.r ∧ blk (.slice (some ⟨h.length, 0, some 0⟩) n c) ≠ some P.c := by
  have := e.lr; have := e.lc
  exact ⟨fun h => by simp [blk] at h; omega, fun h => by simp [blk] at h; omega⟩
section
variable {P : RP} {d : Nat} {f : List Tok → PR Ex}
theorem yfa (hF : zcy P jr d f) (hs : Shr f) : zcy P kq d (zbx f seqM) := by
  intro h i e
  refine wz zdc ?_
  have hm : Sl (h ++ [.cells [str [59]] 0 false]) (.slice (some ⟨h.length, 0, some 0⟩) 1 1) 1 ([[59]].map zfj) := zlb h [59]
  obtain ⟨v, h', q, x⟩ := zl9 hF hs zxl (e.more [.cells [str [59]] 0 false]) hm (zvr e 1 1).1 (zvr e 1 1).2
  obtain ⟨b, rfl⟩ := x.ptr
  simp only [za3, z7, xe, zb, z8, zn, zc, zo, zf, ze, zd, List.set_cons_succ, List.set_cons_zero, O_mv, yf, List.map_cons, List.map_nil, ww, wd, yc, yd, xb, xi, yz, Nat.lt_add_one, List.cons_append, List.nil_append, List.length_cons, List.length_nil, Nat.reduceSub, Nat.zero_add, zm, yb, za, slc, zh, zg, List.append_nil, xt, yi, wo, g9, q, xt, gc]
  cases hp : zbx f seqM (P.L.drop i) with
  | ok n r =>
    rw [hp] at x
    obtain ⟨k, hk, e2, t2, m2⟩ := x
    exact ⟨k, hk, e2, t2.weak fun c hc => ⟨by have := hc.1; simp at this; omega, hc.2⟩, (Mv.add P h _).trans m2⟩
  | bad c a =>
    rw [hp] at x
    exact ⟨x.1, x.2.1, (Mv.add P h _).trans x.2.2.1, _, rfl⟩
theorem yfk (hF : zcy P kq d f) (hs : Shr f) : zcy P j9 d (zbx f andM) := by
  intro h i e
  refine wz zdo ?_
  have hm : Sl (h ++ [.cells [str [38], str [92]] 0 false]) (.slice (some ⟨h.length, 0, some 0⟩) 2 1) 1 ([[38], [92]].map zfj) := Sl.last h (by rfl) (by rfl) (by simp [zfj]) 0 false
  obtain ⟨v, h', q, x⟩ := zl9 hF hs zyg (e.more [.cells [str [38], str [92]] 0 false]) hm (zvr e 2 1).1 (zvr e 2 1).2
  obtain ⟨b, rfl⟩ := x.ptr
  simp only [za0, z7, xe, zb, z8, zn, zc, zo, zf, ze, zd, List.set_cons_succ, List.set_cons_zero, O_mv, yf, List.map_cons, List.map_nil, ww, wd, yc, yd, xb, xi, yz, Nat.lt_add_one, Nat.zero_lt_succ, List.cons_append, List.nil_append, List.length_cons, List.length_nil, Nat.reduceAdd, Nat.reduceSub, Nat.zero_add, zm, yb, za, slc, zh, zg, List.append_nil, xt, yi, wo, g9, q, xt, gc]
  cases hp : zbx f andM (P.L.drop i) with
  | ok n r =>
    rw [hp] at x
    obtain ⟨k, hk, e2, t2, m2⟩ := x
    exact ⟨k, hk, e2, t2.weak fun c hc => ⟨by have := hc.1; simp at this; omega, hc.2⟩, (Mv.add P h _).trans m2⟩
  | bad c a =>
    rw [hp] at x
    exact ⟨x.1, x.2.1, (Mv.add P h _).trans x.2.2.1, _, rfl⟩
theorem zrl (hF : zcy P j9 d f) (hs : Shr f) : zcy P xz d (zbx f orM) := by
  intro h i e
  refine wz zat ?_
  have hm : Sl (h ++ [.cells [str [124]] 0 false]) (.slice (some ⟨h.length, 0, some 0⟩) 1 1) 1 ([[124]].map zfj) := zlb h [124]
  obtain ⟨v, h', q, x⟩ := zl9 hF hs ycl (e.more [.cells [str [124]] 0 false]) hm (zvr e 1 1).1 (zvr e 1 1).2
  obtain ⟨b, rfl⟩ := x.ptr
  simp only [f0, z7, xe, zb, z8, zn, zc, zo, zf, ze, zd, List.set_cons_succ, List.set_cons_zero, O_mv, yf, List.map_cons, List.map_nil, ww, wd, yc, yd, xb, xi, yz, Nat.lt_add_one, List.cons_append, List.nil_append, List.length_cons, List.length_nil, Nat.reduceSub, Nat.zero_add, zm, yb, za, slc, zh, zg, List.append_nil, xt, yi, wo, g9, q, xt, gc]
  cases hp : zbx f orM (P.L.drop i) with
  | ok n r =>
    rw [hp] at x
    obtain ⟨k, hk, e2, t2, m2⟩ := x
    exact ⟨k, hk, e2, t2.weak fun c hc => ⟨by have := hc.1; simp at this; omega, hc.2⟩, (Mv.add P h _).trans m2⟩
  | bad c a =>
    rw [hp] at x
    exact ⟨x.1, x.2.1, (Mv.add P h _).trans x.2.2.1, _, rfl⟩
end
theorem zy6 {P : RP} {d : Nat} {inner : Option (List Tok → PR Ex)} (hin : zmc P d inner) (hs : ∀ f, inner = some f → Shr f) : zcy P xz d (zvk P.en (zkc P.en inner)) := by
  have s0 := zc3 (e := P.en) hs
  have p0 := yfz hin
  have s1 := zbu (e := P.en) s0
  have p1 := ybs p0 s0
  have s2 := zbs s1
  have p2 := zym p1 s1
  have s3 := fo (m := seqM) s2
  have p3 := yfa p2 s2
  have s4 := fo (m := andM) s3
  have p4 := yfk p3 s3
  exact zrl p4 s4
theorem yat (P : RP) : ∀ k d, d + k = 32 → zcy P xz d (zfm P.en k)
  | 0, d, h => zy6 (show zmc P d none from by unfold zmc; omega) fun f hf => by cases hf
  | k + 1, d, h => zy6 (show zmc P d (some (zfm P.en k)) from ⟨by omega, yat P k (d + 1) (by omega)⟩) fun f hf => by cases hf; exact zc6 _ _
section
variable {P : RP}
theorem yfe : zsu P gi := by
  intro h i d c p e hc
  have : ∃ v h', DF FF gi [pt P.r] h = some (v, h') ∧ ∃ b, (v = pt b ∧ Rd P h' i d c p ∧ Mv P h h') := by
    refine wz zed ?_
    have hw := zjy e 0 (by omega)
    rw [Nat.add_zero, Int.cast_ofNat_Int] at hw
    simp only [wx, z7, zr, xe, yl, zb, zw, z8, zn, zc, zp, zo, zf, ze, zd, List.set_cons_succ, List.set_cons_zero, O_mv, yg, O_un, yf, List.map_cons, List.map_nil, zz, zk, wg, y9, yc, yd, yz, wu, Nat.reduceLT, vp, List.cons_append, List.nil_append, List.length_cons, List.length_nil, Nat.reduceAdd, Nat.reduceSub, Nat.zero_add, Bool.not_false, zm, yb, zx, za, zi, y0, w8, xc, z6, zl, y4, ya, zq, zj, yk, zy, zs, zh, zg, List.append_assoc, List.length_append, Nat.add_zero, List.getElem?_cons_zero, xt, eq_self, yh, zt, yi, xk, hw, e.r1, at_c (e.more _), yh, zt, fh (e.more _) hc, xt, gc]
    exact ⟨_, rfl, e.more _, Mv.add P h _⟩
  obtain ⟨v, h', q, b, rfl, r⟩ := this
  exact ⟨b, h', q, r⟩
theorem zw4 : zsu P jc := by
  intro h i d c p e hc
  have : ∃ v h', DF FF jc [pt P.r] h = some (v, h') ∧ ∃ b, (v = pt b ∧ Rd P h' i d c p ∧ Mv P h h') := by
    refine wz zc7 ?_
    obtain ⟨b, K, q, eK, mK⟩ := yfe h i d c p e hc
    simp only [zad, z7, zr, w6, xe, zb, zu, z8, zn, zc, zo, zf, ze, zd, List.set_cons_succ, List.set_cons_zero, O_mv, yf, List.map_cons, List.map_nil, List.cons_append, List.nil_append, List.length_cons, List.length_nil, Nat.reduceSub, Nat.zero_add, zm, yb, zx, za, yx, yj, zh, zg, xt, yi, q, zfe, fh eK hc, xt, gc]
    exact ⟨_, rfl, eK, mK⟩
  obtain ⟨v, h', q, b, rfl, r⟩ := this
  exact ⟨b, h', q, r⟩
theorem zwq : zsu P jr := by
  intro h i d c p e hc
  have : ∃ v h', DF FF jr [pt P.r] h = some (v, h') ∧ ∃ b, (v = pt b ∧ Rd P h' i d c p ∧ Mv P h h') := by
    refine wz zb6 ?_
    obtain ⟨b, K, q, eK, mK⟩ := zw4 h i d c p e hc
    simp only [k9, z7, zr, xe, yl, zb, zu, z8, zn, ye, zc, w5, zo, zf, ze, zd, List.set_cons_succ, List.set_cons_zero, O_mv, yw, xf, yf, List.map_cons, List.map_nil, List.cons_append, List.nil_append, List.length_cons, List.length_nil, Nat.reduceSub, Nat.zero_add, zm, yb, za, zh, zg, xt, yi, q, fh eK hc, xt, gc]
    exact ⟨_, rfl, eK, mK⟩
  obtain ⟨v, h', q, b, rfl, r⟩ := this
  exact ⟨b, h', q, r⟩
theorem zjf {F : FuncId} (hF : zsu P F) {h : Heap} {i d c p : Nat} (e : Rd P h i d c p) (hc : c ≠ 0) (ms : Value) : ∃ b h', DF FF qr [pt P.r, .func (.func F) [pt P.r].toArray [].toArray, ms] h = some (pt b, h') ∧ Rd P h' i d c p ∧ Mv P h h' := by
  have : ∃ v h', DF FF qr [pt P.r, .func (.func F) [pt P.r].toArray [].toArray, ms] h = some (v, h') ∧ ∃ b, (v = pt b ∧ Rd P h' i d c p ∧ Mv P h h') := by
    refine wz zb7 ?_
    obtain ⟨b, K, q, eK, mK⟩ := hF h i d c p e hc
    simp only [pm, z7, zr, w6, xe, zb, zu, z8, zn, ye, zc, w5, zo, zf, ze, zd, List.set_cons_succ, List.set_cons_zero, O_mv, yw, xf, yf, List.map_cons, List.map_nil, List.cons_append, List.nil_append, List.length_cons, List.length_nil, Nat.reduceAdd, Nat.reduceSub, Nat.zero_add, zm, yb, zx, za, yx, yj, zh, zg, List.append_nil, xt, yi, bj, jf, q, zfe, fh eK hc, xt, gc]
    exact ⟨_, rfl, eK, mK⟩
  obtain ⟨v, h', q, b, rfl, r⟩ := this
  exact ⟨b, h', q, r⟩
theorem yb3 : zsu P kq := by
  intro h i d c p e hc
  have : ∃ v h', DF FF kq [pt P.r] h = some (v, h') ∧ ∃ b, (v = pt b ∧ Rd P h' i d c p ∧ Mv P h h') := by
    refine wz zdc ?_
    obtain ⟨b, K, q, eK, mK⟩ := zjf zwq (e.more [.cells [str [59]] 0 false]) hc (.slice (some ⟨h.length, 0, some 0⟩) 1 1)
    simp only [za3, z7, xe, zb, z8, zn, zc, zo, zf, ze, zd, List.set_cons_succ, List.set_cons_zero, O_mv, yf, List.map_cons, List.map_nil, ww, wd, yc, yd, xb, xi, yz, Nat.lt_add_one, List.cons_append, List.nil_append, List.length_cons, List.length_nil, Nat.reduceSub, Nat.zero_add, zm, yb, za, slc, zh, zg, List.append_nil, xt, yi, wo, g9, q, xt, gc]
    exact ⟨_, rfl, eK, (Mv.add P h _).trans mK⟩
  obtain ⟨v, h', q, b, rfl, r⟩ := this
  exact ⟨b, h', q, r⟩
theorem ybh : zsu P j9 := by
  intro h i d c p e hc
  have : ∃ v h', DF FF j9 [pt P.r] h = some (v, h') ∧ ∃ b, (v = pt b ∧ Rd P h' i d c p ∧ Mv P h h') := by
    refine wz zdo ?_
    obtain ⟨b, K, q, eK, mK⟩ := zjf yb3 (e.more [.cells [str [38], str [92]] 0 false]) hc (.slice (some ⟨h.length, 0, some 0⟩) 2 1)
    simp only [za0, z7, xe, zb, z8, zn, zc, zo, zf, ze, zd, List.set_cons_succ, List.set_cons_zero, O_mv, yf, List.map_cons, List.map_nil, ww, wd, yc, yd, xb, xi, yz, Nat.lt_add_one, Nat.zero_lt_succ, List.cons_append, List.nil_append, List.length_cons, List.length_nil, Nat.reduceAdd, Nat.reduceSub, Nat.zero_add, zm, yb, za, slc, zh, zg, List.append_nil, xt, yi, wo, g9, q, xt, gc]
    exact ⟨_, rfl, eK, (Mv.add P h _).trans mK⟩
  obtain ⟨v, h', q, b, rfl, r⟩ := this
  exact ⟨b, h', q, r⟩
theorem zil : zsu P xz := by
  intro h i d c p e hc
  have : ∃ v h', DF FF xz [pt P.r] h = some (v, h') ∧ ∃ b, (v = pt b ∧ Rd P h' i d c p ∧ Mv P h h') := by
    refine wz zat ?_
    obtain ⟨b, K, q, eK, mK⟩ := zjf ybh (e.more [.cells [str [124]] 0 false]) hc (.slice (some ⟨h.length, 0, some 0⟩) 1 1)
    simp only [f0, z7, xe, zb, z8, zn, zc, zo, zf, ze, zd, List.set_cons_succ, List.set_cons_zero, O_mv, yf, List.map_cons, List.map_nil, ww, wd, yc, yd, xb, xi, yz, Nat.lt_add_one, List.cons_append, List.nil_append, List.length_cons, List.length_nil, Nat.reduceSub, Nat.zero_add, zm, yb, za, slc, zh, zg, List.append_nil, xt, yi, wo, g9, q, xt, gc]
    exact ⟨_, rfl, eK, (Mv.add P h _).trans mK⟩
  obtain ⟨v, h', q, b, rfl, r⟩ := this
  exact ⟨b, h', q, r⟩
end
theorem zeg {e : Nat} {ts r : List Tok} {g : Gv} (h : zg9 e ts = .ok g r) : r.length < ts.length := by
  unfold zg9 at h
  cases ts with
  | nil => cases h
  | cons t ts =>
    rw [zfd] at h
    split at h
    · cases h
    · rename_i w r0 hn
      have h0 : r0.length < (t :: ts).length := by
        split at hn
        · cases hn; simp
        · cases hn
      split at h
      · cases h
      · rename_i u r1 he
        have h1 : r1.length < r0.length := by
          cases r0 with
          | nil => cases he
          | cons t0 r0 =>
            rw [eatP] at he
            split at he
            · cases he; simp
            · cases he
        split at h
        · cases h
        · rename_i x r2 hx
          have h2 := zc6 e 32 _ _ _ hx
          cases h
          omega
theorem zht (e : Nat) : ∀ k k' ts, ts.length < k → ts.length < k' → fm e k ts = fm e k' ts
  | 0, k', ts, h, h' => by omega
  | k + 1, 0, ts, h, h' => by omega
  | k + 1, k' + 1, ts, h, h' => by
    rw [fm, fm]
    cases hg : zg9 e ts with
    | bad c a => rfl
    | ok g r =>
      have := zeg hg
      cases r with
      | nil => rfl
      | cons t r =>
        simp only [List.length_cons] at this
        simp only
        rw [zht e k k' r (by omega) (by omega)]
theorem yb5 {P : RP} {k k' : Nat} {g : Gv} (h : zg9 P.en (P.L.drop k) = .ok g (P.L.drop k')) : fm P.en (P.L.length + 1) (P.L.drop k) = if keyT (y6 P k') == wAnd then (match fm P.en (P.L.length + 1) (P.L.drop (k' + 1)) with
    | .bad c a => .bad c a
    | .ok gs r2 => .ok (g :: gs) r2) else .ok [g] (P.L.drop k') := by
  have hs := zeg h
  simp only [List.length_drop] at hs
  rw [fm, h]
  by_cases hk : k' < P.L.length
  · rw [gz hk]
    simp only
    rw [zht P.en P.L.length (P.L.length + 1) (P.L.drop (k' + 1)) (by simp; omega) (by simp; omega)]
    rfl
  · rw [List.drop_eq_nil_of_le (by omega), j3 hk, zer]; rfl
theorem zz4 {e : Nat} {ts : List Tok} {c a n : Nat} (h : zg9 e ts = .bad c a) : fm e (n + 1) ts = .bad c a := by rw [fm, h]
theorem zu7 (P : RP) (k : Nat) : zfd P.en (P.L.drop k) = if za9 (y6 P k) then .ok ((y6 P k).text, (y6 P k).at_) (P.L.drop (k + 1)) else .bad (zap P k) (za7 P k) := by
  unfold zap za7
  by_cases hk : k < P.L.length
  · rw [gz hk, zfd, if_pos hk, if_pos hk]
  · rw [List.drop_eq_nil_of_le (by omega), j3 hk, if_neg hk, if_neg hk]; rfl
theorem yfv (P : RP) (k : Nat) {m : Bys} (hm : m ≠ []) : eatP P.en m (P.L.drop k) = if keyT (y6 P k) == m then .ok () (P.L.drop (k + 1)) else .bad (zap P k) (za7 P k) := by
  unfold zap za7
  by_cases hk : k < P.L.length
  · rw [gz hk, eatP, if_pos hk, if_pos hk]
  · rw [List.drop_eq_nil_of_le (by omega), j3 hk, if_neg hk, if_neg hk, zer, if_neg (by simpa using hm)]; rfl
def v7 (g : Gv) (v : Value) : List Value := [str g.name, .int .i64 (g.at_ : Int), v]
def GsP (h : Heap) : (Nat → Prop) → List Value → List Gv → Prop
  | _, [], [] => True
  | S, v :: vs, g :: gs => ∃ S1 S2, TreeP h S1 v g.e ∧ GsP h S2 vs gs ∧ (∀ z, S1 z → S z ∧ ¬ S2 z) ∧ ∀ z, S2 z → S z
  | _, _, _ => False
theorem GsP.keep {h h' : Heap} : ∀ {S : Nat → Prop} {vs : List Value} {gs : List Gv}, GsP h S vs gs → (∀ b o, S b → h[b]? = some o → h'[b]? = some o) → GsP h' S vs gs
  | S, [], [], e, k => trivial
  | S, v :: vs, g :: gs, e, k => by
    obtain ⟨S1, S2, t, r, h1, h2⟩ := e
    exact ⟨S1, S2, t.keep fun b o hb => k b o (h1 b hb).1, r.keep fun b o hb => k b o (h2 b hb), h1, h2⟩
  | S, [], _ :: _, e, k => e.elim
  | S, _ :: _, [], e, k => e.elim
theorem GsP.len {h : Heap} : ∀ {S : Nat → Prop} {vs : List Value} {gs : List Gv}, GsP h S vs gs → vs.length = gs.length
  | S, [], [], e => rfl
  | S, v :: vs, g :: gs, e => by obtain ⟨S1, S2, t, r, h1, h2⟩ := e; simp [r.len]
  | S, [], _ :: _, e => e.elim
  | S, _ :: _, [], e => e.elim
theorem GsP.snoc {h : Heap} {T : Nat → Prop} {v : Value} {g : Gv} (t : TreeP h T v g.e) : ∀ {S : Nat → Prop} {vs : List Value} {gs : List Gv}, GsP h S vs gs → (∀ z, S z → ¬ T z) → GsP h (fun z => S z ∨ T z) (vs ++ [v]) (gs ++ [g])
  | S, [], [], e, hd => ⟨T, fun _ => False, t, trivial, fun z hz => ⟨.inr hz, id⟩, fun z hz => hz.elim⟩
  | S, w :: vs, f :: gs, e, hd => by
    obtain ⟨S1, S2, t1, r, h1, h2⟩ := e
    exact ⟨S1, fun z => S2 z ∨ T z, t1, r.snoc t fun z hz => hd z (h2 z hz), fun z hz => ⟨.inl (h1 z hz).1, fun h => h.elim (h1 z hz).2 (hd z (h1 z hz).1)⟩, fun z hz => hz.imp (h2 z) id⟩
  | S, [], _ :: _, e, hd => e.elim
  | S, _ :: _, [], e, hd => e.elim
def ckS : Ck → Bys
  | .acyclic => p8
  | .irr => wIrr
  | .empty => zdw
def kwOf (rc : Bool) : Bys := if rc then wRec else wLet
def StP (h : Heap) (T : Nat → Prop) (row : List Value) : Stm → Prop
  | .lets rc gs => ∃ s vs S, row = [str (kwOf rc), s, nilP, str []] ∧ Sl h s 3 (List.zipWith v7 gs vs) ∧ GsP h S vs gs ∧ (∀ z, S z → T z ∧ blk s ≠ some z) ∧ ∀ b, blk s = some b → T b
  | .chk k x as_ => ∃ v, row = [str (ckS k), nils, v, str as_] ∧ TreeP h T v x
theorem StP.keep {h h' : Heap} {T : Nat → Prop} {row : List Value} {s : Stm} (e : StP h T row s) (k : ∀ b o, T b → h[b]? = some o → h'[b]? = some o) : StP h' T row s := by
  cases s with
  | lets rc gs =>
    obtain ⟨s, vs, S, hr, hs, hg, h1, h2⟩ := e
    exact ⟨s, vs, S, hr, hs.keep fun b hb o ho => k b o (h2 b hb) ho, hg.keep fun b o hb => k b o (h1 b hb).1, h1, h2⟩
  | chk c x as_ =>
    obtain ⟨v, hr, ht⟩ := e
    exact ⟨v, hr, ht.keep k⟩
theorem StP.len {h : Heap} {T : Nat → Prop} {row : List Value} {s : Stm} (e : StP h T row s) : row.length = 4 := by
  cases s with
  | lets rc gs => obtain ⟨s, vs, S, hr, _⟩ := e; rw [hr]; rfl
  | chk c x as_ => obtain ⟨v, hr, ht⟩ := e; rw [hr]; rfl
def StsP (h : Heap) : (Nat → Prop) → List (List Value) → List Stm → Prop
  | _, [], [] => True
  | T, row :: rows, s :: l => ∃ T1 T2, StP h T1 row s ∧ StsP h T2 rows l ∧ (∀ z, T1 z → T z ∧ ¬ T2 z) ∧ ∀ z, T2 z → T z
  | _, _, _ => False
theorem StsP.keep {h h' : Heap} : ∀ {T : Nat → Prop} {rows : List (List Value)} {l : List Stm}, StsP h T rows l → (∀ b o, T b → h[b]? = some o → h'[b]? = some o) → StsP h' T rows l
  | T, [], [], e, k => trivial
  | T, v :: vs, g :: gs, e, k => by
    obtain ⟨S1, S2, t, r, h1, h2⟩ := e
    exact ⟨S1, S2, t.keep fun b o hb => k b o (h1 b hb).1, r.keep fun b o hb => k b o (h2 b hb), h1, h2⟩
  | T, [], _ :: _, e, k => e.elim
  | T, _ :: _, [], e, k => e.elim
theorem StsP.len {h : Heap} : ∀ {T : Nat → Prop} {rows : List (List Value)} {l : List Stm}, StsP h T rows l → rows.length = l.length ∧ ∀ r ∈ rows, r.length = 4
  | T, [], [], e => ⟨rfl, by simp⟩
  | T, v :: vs, g :: gs, e => by
    obtain ⟨S1, S2, t, r, h1, h2⟩ := e
    refine ⟨by simp [r.len.1], fun x hx => ?_⟩
    rcases List.mem_cons.1 hx with rfl | hx
    · exact t.len
    · exact r.len.2 x hx
  | T, [], _ :: _, e => e.elim
  | T, _ :: _, [], e => e.elim
theorem StsP.snoc {h : Heap} {U : Nat → Prop} {row : List Value} {s : Stm} (t : StP h U row s) : ∀ {T : Nat → Prop} {rows : List (List Value)} {l : List Stm}, StsP h T rows l → (∀ z, T z → ¬ U z) → StsP h (fun z => T z ∨ U z) (rows ++ [row]) (l ++ [s])
  | T, [], [], e, hd => ⟨U, fun _ => False, t, trivial, fun z hz => ⟨.inr hz, id⟩, fun z hz => hz.elim⟩
  | T, w :: vs, f :: gs, e, hd => by
    obtain ⟨S1, S2, t1, r, h1, h2⟩ := e
    exact ⟨S1, fun z => S2 z ∨ U z, t1, r.snoc t fun z hz => hd z (h2 z hz), fun z hz => ⟨.inl (h1 z hz).1, fun h => h.elim (h1 z hz).2 (hd z (h1 z hz).1)⟩, fun z hz => hz.imp (h2 z) id⟩
  | T, [], _ :: _, e, hd => e.elim
  | T, _ :: _, [], e, hd => e.elim
theorem GsP.get {h : Heap} : ∀ {S : Nat → Prop} {vs : List Value} {gs : List Gv}, GsP h S vs gs → ∀ (k : Nat) (g : Gv), gs[k]? = some g → ∃ v S', vs[k]? = some v ∧ TreeP h S' v g.e ∧ ∀ z, S' z → S z
  | S, [], [], e, k, g, hk => by simp at hk
  | S, v :: vs, g' :: gs, e, 0, g, hk => by
    obtain ⟨S1, S2, t, r, h1, h2⟩ := e
    cases hk
    exact ⟨v, S1, rfl, t, fun z hz => (h1 z hz).1⟩
  | S, v :: vs, g' :: gs, e, k + 1, g, hk => by
    obtain ⟨S1, S2, t, r, h1, h2⟩ := e
    obtain ⟨w, S', a, b, c⟩ := r.get k g (by simpa using hk)
    exact ⟨w, S', by simpa using a, b, fun z hz => h2 z (c z hz)⟩
  | S, [], _ :: _, e, k, g, hk => e.elim
  | S, _ :: _, [], e, k, g, hk => e.elim
def z4 : List Value := [str [], .slice none 0 0, nilP, str []]
theorem zjq (z0 z1 z2 a b c : Value) : w4 [z0, z1, z2] [(0, 3, agg [a, b, c])] = some [a, b, c] := by
  rw [w4, yh]; simp [splice, w4]
theorem Own.slice {h H : Heap} {s : Value} {c : Nat} {rows : List (List Value)} (e : Own h H s c rows) : ∃ a n c', s = .slice a n c' := by
  rcases e with ⟨⟨rfl, _⟩ | ⟨b, ver, _, rfl, _⟩, _⟩
  · exact ⟨_, _, _, rfl⟩
  · exact ⟨_, _, _, rfl⟩
theorem ybu {P : RP} {h K3 : Heap} {i k d x a g : Nat} {rows : List (List Value)} {s x0 : Value} {w : Bys} {p : Int} {kw : Bys} (v : Value) (e : Rd P h i 0 0 0) (eK : Rd P K3 k d x a) (hg : K3[g]? = some (.cells [str w, .int .i64 p, x0] 0 false)) (hgl : h.length + 2 ≤ g) (hgs : blk s ≠ some g) (h0 : K3[h.length]? = some (.cells z4 0 false))
    (h1 : K3[h.length + 1]? = some (.cells [str kw, s, nilP, str []] 0 false)) (own : Own [] K3 s 3 rows) (hb : ∀ b, blk s = some b → h.length + 2 ≤ b) (room : rows.length ≤ 10000) (mK : Mv P h K3) :
    ∃ a' n' c' K4, kh (K3.set g (.cells [str w, .int .i64 p, v] 0 false) ++ [.cells [str w, .int .i64 p, v] 0 false]) 3 32 s (zc9 (K3.set g (.cells [str w, .int .i64 p, v] 0 false) ++ [.cells [str w, .int .i64 p, v] 0 false]) 3 (.slice (some ⟨K3.length, 0, some 0⟩) 1 3)) = some (.slice a' n' c', K4) ∧
      K4[h.length + 1]? = some (.cells [str kw, s, nilP, str []] 0 false) ∧
      Rd P (K4.set (h.length + 1) (.cells [str kw, .slice a' n' c', nilP, str []] 0 false)) k d x a ∧ (K4.set (h.length + 1) (.cells [str kw, .slice a' n' c', nilP, str []] 0 false))[h.length]? = some (.cells z4 0 false) ∧
      (K4.set (h.length + 1) (.cells [str kw, .slice a' n' c', nilP, str []] 0 false))[h.length + 1]? = some (.cells [str kw, .slice a' n' c', nilP, str []] 0 false) ∧
      Own [] (K4.set (h.length + 1) (.cells [str kw, .slice a' n' c', nilP, str []] 0 false)) (.slice a' n' c') 3 (rows ++ [[str w, .int .i64 p, v]]) ∧ (∀ b, blk (.slice a' n' c') = some b → h.length + 2 ≤ b) ∧
      (∀ z, z < K3.length → blk s ≠ some z → blk (.slice a' n' c') ≠ some z) ∧ Mv P h (K4.set (h.length + 1) (.cells [str kw, .slice a' n' c', nilP, str []] 0 false)) ∧
      (∀ b o, K3[b]? = some o → b ≠ g → b ≠ h.length + 1 → blk s ≠ some b → (K4.set (h.length + 1) (.cells [str kw, .slice a' n' c', nilP, str []] 0 false))[b]? = some o) ∧ K3.length ≤ (K4.set (h.length + 1) (.cells [str kw, .slice a' n' c', nilP, str []] 0 false)).length := by
  have lr := e.lr; have lc := e.lc
  have own2 : Own [] (K3.set g (.cells [str w, .int .i64 p, v] 0 false)) s 3 rows := own.keep fun b hb' o ho => by rw [List.getElem?_set_ne (by rintro rfl; exact hgs hb')]; exact ho
  obtain ⟨s', K4, q1, q2, q3, q4, q5, q6⟩ := own2.push (⟨_, rfl⟩ : Pre [] _) (row := [str w, .int .i64 p, v]) (bytes := 32) rfl (by unfold k8; omega)
  rw [List.length_set] at q1 q4 q6
  have hbn : ∀ b, b < h.length + 2 → blk s ≠ some b := fun b hlt hbb => by have := hb b hbb; omega
  have old : ∀ b o, K3[b]? = some o → b ≠ g → blk s ≠ some b → K4[b]? = some o := fun b o ho n1 n2 => q5 b o (by rw [List.getElem?_set_ne (Ne.symm n1)]; exact ho) n2
  obtain ⟨a', n', c', rfl⟩ := q2.slice
  have f1 : K4[h.length + 1]? = some (.cells [str kw, s, nilP, str []] 0 false) := old _ _ h1 (by omega) (hbn _ (by omega))
  have hlt : h.length + 1 < K4.length := (List.getElem?_eq_some_iff.1 f1).1
  have blk' : ∀ b, blk (.slice a' n' c') = some b → h.length + 2 ≤ b := fun b hb' => by
    rcases q6 with q6 | ⟨j, q6, q7⟩
    · rw [q6] at hb'; exact hb b hb'
    · rw [q6] at hb'; cases hb'
      have := (List.getElem?_eq_some_iff.1 hg).1; omega
  have keep : ∀ b o, K3[b]? = some o → b ≠ g → b ≠ h.length + 1 → blk s ≠ some b → (K4.set (h.length + 1) (.cells [str kw, .slice a' n' c', nilP, str []] 0 false))[b]? = some o := fun b o ho n1 n2 n3 => by
    rw [List.getElem?_set_ne (Ne.symm n2)]; exact old b o ho n1 n3
  have m2 : Mv P K3 K4 → True := fun _ => trivial
  have mE : Mv P h (K4.set (h.length + 1) (.cells [str kw, .slice a' n' c', nilP, str []] 0 false)) := ⟨fun b o ho n1 n2 => by
    have hl := (List.getElem?_eq_some_iff.1 ho).1
    exact keep b o (mK.keep b o ho n1 n2) (by omega) (by omega) (hbn b (by omega)), by rw [List.length_set]; have := mK.le; omega⟩
  refine ⟨a', n', c', K4, q1, f1, ?_, ?_, ?_, ?_, blk', ?_, mE, keep, by rw [List.length_set]; omega⟩
  · exact ⟨keep _ _ eK.hr (by omega) (by omega) (hbn _ (by omega)), keep _ _ eK.hc (by omega) (by omega) (hbn _ (by omega)),
      eK.sw.keep fun b hb' o ho => by have := e.sw.lt hb'; exact keep b o ho (by omega) (by omega) (hbn b (by omega)), eK.sc.keep fun b hb' o ho => by have := e.sc.lt hb'; exact keep b o ho (by omega) (by omega) (hbn b (by omega)), eK.le⟩
  · exact keep _ _ h0 (by omega) (by omega) (hbn _ (by omega))
  · rw [List.getElem?_set_self hlt]
  · exact q2.keep fun b hb' o ho => by rw [List.getElem?_set_ne (by have := blk' b hb'; omega)]; exact ho
  · intro z hz hzs hb'
    rcases q6 with q6 | ⟨j, q6, q7⟩
    · rw [q6] at hb'; exact hzs hb'
    · rw [q6] at hb'; cases hb'; omega
def StR (P : RP) (h : Heap) (v : Value) (h' : Heap) : PR Stm → Prop
  | .ok s r => ∃ row k, v = agg row ∧ r = P.L.drop k ∧ Rd P h' k 0 0 0 ∧ StP h' (Iv h.length h'.length) row s ∧ Mv P h h'
  | .bad c p => ∃ row, v = agg row ∧ row.length = 4 ∧ c ≠ 0 ∧ (∃ k, Rd P h' k 0 c p) ∧ Mv P h h'
def LetS (P : RP) (h : Heap) (R : PR Stm) (rc : Bool) (m : Nat) (K : Heap) (k : Nat) : Prop :=
  ∃ s vs S acc, m = P.L.length - k + 1 ∧ Rd P K k 0 0 0 ∧ K[h.length]? = some (.cells z4 0 false) ∧ K[h.length + 1]? = some (.cells [str (kwOf rc), s, nilP, str []] 0 false) ∧ Own [] K s 3 (List.zipWith v7 acc vs) ∧ GsP K S vs acc ∧
    (∀ z, S z → h.length + 2 ≤ z ∧ z < K.length ∧ blk s ≠ some z) ∧ (∀ b, blk s = some b → h.length + 2 ≤ b) ∧ Mv P h K ∧ acc.length ≤ k ∧
    (match fm P.en (P.L.length + 1) (P.L.drop k) with | .bad c a => R = .bad c a | .ok gs r => R = .ok (.lets rc (acc ++ gs)) r)
def LetI (P : RP) (h : Heap) (R : PR Stm) (rc : Bool) (i : Nat) (m : Nat) (st : St) : Prop := ∃ K k, i < k ∧ (∃ j : Nat → Value, st = ⟨[pt P.r, j 1, pt h.length, pt (h.length + 1), j 4, j 5, j 6, j 7, j 8, j 9, j 10, j 11, j 12, j 13, j 14, j 15, j 16, j 17, j 18, j 19, j 20, j 21, j 22, j 23, j 24, j 25, j 26, j 27, j 28, j 29, j 30, j 31, j 32, j 33, j 34, j 35, j 36, j 37, j 38, j 39, j 40, j 41, j 42, j 43, j 44, j 45, j 46, j 47, j 48, j 49, j 50, j 51, j 52, j 53, j 54, j 55, j 56, j 57, j 58, j 59, j 60, j 61, j 62, j 63, j 64, j 65, j 66, j 67, j 68, j 69, j 70, j 71, j 72, j 73, j 74, j 75, j 76, j 77, j 78, j 79, j 80, j 81, j 82, j 83, j 84, j 85, j 86, j 87, j 88, j 89, j 90, j 91, j 92, j 93, j 94, j 95, j 96, j 97], K⟩) ∧ LetS P h R rc m K k
theorem zep {vs : List Value} {gs : List Gv} (h : vs.length = gs.length) : (List.zipWith v7 gs vs).length = gs.length := by simp [h]
theorem ycg {vs : List Value} {gs : List Gv} (h : vs.length = gs.length) (g : Gv) (v : Value) : List.zipWith v7 (gs ++ [g]) (vs ++ [v]) = List.zipWith v7 gs vs ++ [v7 g v] := by
  rw [List.zipWith_append h.symm]; rfl
theorem yfo (P : RP) (k : Nat) : zg9 P.en (P.L.drop k) = if za9 (y6 P k) then (if keyT (y6 P (k + 1)) == [61] then (match zfm P.en 32 (P.L.drop (k + 1 + 1)) with
      | .bad c a => .bad c a
      | .ok x r2 => .ok ⟨(y6 P k).text, (y6 P k).at_, x⟩ r2) else .bad (zap P (k + 1)) (za7 P (k + 1))) else .bad (zap P k) (za7 P k) := by
  unfold zg9
  rw [zu7]
  cases za9 (y6 P k)
  · rfl
  · simp only [if_true]
    rw [yfv P (k + 1) (m := [61]) (by simp)]
    cases (keyT (y6 P (k + 1)) == [61])
    · rfl
    · simp only [if_true]; rfl
/-- A round, in memory: a name that is given, read rightly or not, is laid behind the others. -/
theorem zps {P : RP} {h K : Heap} {i k : Nat} {rc : Bool} {R : PR Stm} (e : Rd P h i 0 0 0) {s : Value} {vs : List Value} {S : Nat → Prop} {acc : List Gv} (eK : Rd P K k 0 0 0) (hz0 : K[h.length]? = some (.cells z4 0 false)) (hz1 : K[h.length + 1]? = some (.cells [str (kwOf rc), s, nilP, str []] 0 false)) (own : Own [] K s 3 (List.zipWith v7 acc vs)) (gs : GsP K S vs acc)
    (hS : ∀ z, S z → h.length + 2 ≤ z ∧ z < K.length ∧ blk s ≠ some z) (hb : ∀ b, blk s = some b → h.length + 2 ≤ b) (mK : Mv P h K) (hacc : acc.length ≤ k)
    (hg : (match fm P.en (P.L.length + 1) (P.L.drop k) with | .bad c a => R = .bad c a | .ok gs r => R = .ok (.lets rc (acc ++ gs)) r)) :
    ∃ w p K1 K2 K3 b a' n' c' K4 k3 x a, DF FF jl [pt P.r] (K ++ [.cells [str [], .int .i64 0, nilP] 0 false]) = some (tup [str w, .int .i64 p], K1) ∧ K1[K.length]? = some (.cells [str [], .int .i64 0, nilP] 0 false) ∧
      DF FF vx [pt P.r, str [61]] (K1.set K.length (.cells [str w, .int .i64 p, nilP] 0 false)) = some (tup [], K2) ∧ DF FF xz [pt P.r] K2 = some (pt b, K3) ∧ K3[K.length]? = some (.cells [str w, .int .i64 p, nilP] 0 false) ∧
      K3[h.length + 1]? = some (.cells [str (kwOf rc), s, nilP, str []] 0 false) ∧
      kh (K3.set K.length (.cells [str w, .int .i64 p, pt b] 0 false) ++ [.cells [str w, .int .i64 p, pt b] 0 false]) 3 32 s (zc9 (K3.set K.length (.cells [str w, .int .i64 p, pt b] 0 false) ++ [.cells [str w, .int .i64 p, pt b] 0 false]) 3 (.slice (some ⟨K3.length, 0, some 0⟩) 1 3)) = some (.slice a' n' c', K4) ∧
      K4[h.length + 1]? = some (.cells [str (kwOf rc), s, nilP, str []] 0 false) ∧
      Rd P (K4.set (h.length + 1) (.cells [str (kwOf rc), .slice a' n' c', nilP, str []] 0 false)) k3 0 x a ∧ Mv P h (K4.set (h.length + 1) (.cells [str (kwOf rc), .slice a' n' c', nilP, str []] 0 false)) ∧
      (K4.set (h.length + 1) (.cells [str (kwOf rc), .slice a' n' c', nilP, str []] 0 false))[h.length]? = some (.cells z4 0 false) ∧
      (K4.set (h.length + 1) (.cells [str (kwOf rc), .slice a' n' c', nilP, str []] 0 false))[h.length + 1]? = some (.cells [str (kwOf rc), .slice a' n' c', nilP, str []] 0 false) ∧
      ((x ≠ 0 ∧ R = .bad x a) ∨ (x = 0 ∧ a = 0 ∧ k < k3 ∧ ∃ S' g, Own [] (K4.set (h.length + 1) (.cells [str (kwOf rc), .slice a' n' c', nilP, str []] 0 false)) (.slice a' n' c') 3 (List.zipWith v7 (acc ++ [g]) (vs ++ [pt b])) ∧
        GsP (K4.set (h.length + 1) (.cells [str (kwOf rc), .slice a' n' c', nilP, str []] 0 false)) S' (vs ++ [pt b]) (acc ++ [g]) ∧ (∀ z, S' z → h.length + 2 ≤ z ∧ z < (K4.set (h.length + 1) (.cells [str (kwOf rc), .slice a' n' c', nilP, str []] 0 false)).length ∧ blk (.slice a' n' c') ≠ some z) ∧ (∀ b, blk (.slice a' n' c') = some b → h.length + 2 ≤ b) ∧
        (if keyT (y6 P k3) == wAnd then (match fm P.en (P.L.length + 1) (P.L.drop (k3 + 1)) with | .bad c a => R = .bad c a | .ok gs r => R = .ok (.lets rc ((acc ++ [g]) ++ gs)) r) else R = .ok (.lets rc (acc ++ [g])) (P.L.drop k3)))) := by
  have lr := e.lr; have lc := e.lc; have hL := P.len; have lK := mK.le
  have lz := (List.getElem?_eq_some_iff.1 hz1).1
  obtain ⟨w, p, K1, q1, x1, m1⟩ := zxd (eK.more [.cells [str [], .int .i64 0, nilP] 0 false])
  have o1 : K1[K.length]? = some (.cells [str [], .int .i64 0, nilP] 0 false) := m1.keep _ _ (by simp) (by omega) (by omega)
  have l1 := (List.getElem?_eq_some_iff.1 o1).1
  have mK1 : Mv P K K1 := (Mv.add P K _).trans m1
  have mE1 : Mv P K (K1.set K.length (.cells [str w, .int .i64 p, nilP] 0 false)) := mK1.upd (Nat.le_refl _) _
  have oE1 : (K1.set K.length (.cells [str w, .int .i64 p, nilP] 0 false))[K.length]? = some (.cells [str w, .int .i64 p, nilP] 0 false) := by rw [List.getElem?_set_self l1]
  have hgs : blk s ≠ some K.length := fun hh => by have := (own.lt hh).2; omega
  have rl : (List.zipWith v7 acc vs).length ≤ 10000 := by rw [zep gs.len]; have := eK.le; omega
  have all : ∀ (K3 : Heap) (b k3 x a : Nat), Rd P K3 k3 0 x a → Mv P (K1.set K.length (.cells [str w, .int .i64 p, nilP] 0 false)) K3 → _ := fun K3 b k3 x a e3 m3 =>
    ybu (kw := kwOf rc) (s := s) (rows := List.zipWith v7 acc vs) (pt b) e e3 (m3.keep _ _ oE1 (by omega) (by omega)) (by omega) hgs ((mE1.trans m3).keep _ _ hz0 (by omega) (by omega)) ((mE1.trans m3).keep _ _ hz1 (by omega) (by omega)) (own.keep fun c hc o ho => (mE1.trans m3).keep c o ho (by have := hb c hc; omega) (by have := hb c hc; omega)) hb rl (mK.trans (mE1.trans m3))
  have o3 : ∀ K3, Mv P (K1.set K.length (.cells [str w, .int .i64 p, nilP] 0 false)) K3 → K3[K.length]? = some (.cells [str w, .int .i64 p, nilP] 0 false) ∧ K3[h.length + 1]? = some (.cells [str (kwOf rc), s, nilP, str []] 0 false) := fun K3 m3 => ⟨m3.keep _ _ oE1 (by omega) (by omega), (mE1.trans m3).keep _ _ hz1 (by omega) (by omega)⟩
  have hgv := yfo P k
  have bad : ∀ c a, zg9 P.en (P.L.drop k) = .bad c a → R = .bad c a := fun c a hq => by rw [zz4 hq] at hg; exact hg
  cases hn : za9 (y6 P k)
  · rw [hn, if_neg Bool.false_ne_true] at x1 hgv
    have eE1 : Rd P (K1.set K.length (.cells [str w, .int .i64 p, nilP] 0 false)) k 0 (zap P k) (za7 P k) := eK.upd x1 (Nat.le_refl _) _
    obtain ⟨b, K3, q3, e3, m3⟩ := zil _ _ _ _ _ eE1 (fk P k)
    obtain ⟨a', n', c', K4, r1, r2, r3, r4, r5, r6, r7, r8, r9, r10, r11⟩ := all K3 b k _ _ e3 m3
    exact ⟨w, p, K1, _, K3, b, a', n', c', K4, k, _, _, q1, o1, zr5 eE1 (fk P k) [61], q3, (o3 K3 m3).1, (o3 K3 m3).2, r1, r2, r3, r9, r4, r5, .inl ⟨fk P k, bad _ _ hgv⟩⟩
  · rw [hn, if_pos rfl] at x1 hgv
    obtain ⟨rfl, rfl, x1⟩ := x1
    have eE1 := eK.upd x1 (Nat.le_refl _) (.cells [str (y6 P k).text, .int .i64 ((y6 P k).at_ : Int), nilP] 0 false)
    obtain ⟨K2, q2, x2, m2⟩ := zun eE1 (m := [61]) (by simp)
    cases k61 : (keyT (y6 P (k + 1)) == [61])
    · rw [k61, if_neg Bool.false_ne_true] at x2 hgv
      obtain ⟨b, K3, q3, e3, m3⟩ := zil _ _ _ _ _ x2 (fk P (k + 1))
      obtain ⟨a', n', c', K4, r1, r2, r3, r4, r5, r6, r7, r8, r9, r10, r11⟩ := all K3 b _ _ _ e3 (m2.trans m3)
      exact ⟨_, _, K1, K2, K3, b, a', n', c', K4, _, _, _, q1, o1, q2, q3, (o3 K3 (m2.trans m3)).1, (o3 K3 (m2.trans m3)).2, r1, r2, r3, r9, r4, r5, .inl ⟨fk P (k + 1), bad _ _ hgv⟩⟩
    · rw [k61, if_pos rfl] at x2 hgv
      obtain ⟨v, K3, q3, x3⟩ := yat P 32 0 rfl K2 (k + 1 + 1) x2
      obtain ⟨b, rfl⟩ := x3.ptr
      cases hx : zfm P.en 32 (P.L.drop (k + 1 + 1)) with
      | bad c a =>
        rw [hx] at x3 hgv
        obtain ⟨hc, ⟨k3, e3⟩, m3, _⟩ := x3
        obtain ⟨a', n', c', K4, r1, r2, r3, r4, r5, r6, r7, r8, r9, r10, r11⟩ := all K3 b _ _ _ e3 (m2.trans m3)
        exact ⟨_, _, K1, K2, K3, b, a', n', c', K4, _, _, _, q1, o1, q2, q3, (o3 K3 (m2.trans m3)).1, (o3 K3 (m2.trans m3)).2, r1, r2, r3, r9, r4, r5, .inl ⟨hc, bad _ _ hgv⟩⟩
      | ok y r =>
        rw [hx] at x3 hgv
        obtain ⟨k3, rfl, e3, t3, m3⟩ := x3
        have m13 := m2.trans m3
        have mK3 := mE1.trans m13
        obtain ⟨a', n', c', K4, r1, r2, r3, r4, r5, r6, r7, r8, r9, r10, r11⟩ := all K3 b _ _ _ e3 m13
        have hsz := zeg hgv
        simp only [List.length_drop] at hsz
        have l12 := m2.le
        rw [List.length_set] at l12
        have l3 := m3.le
        refine ⟨_, _, K1, K2, K3, b, a', n', c', K4, k3, 0, 0, q1, o1, q2, q3, (o3 K3 m13).1, (o3 K3 m13).2, r1, r2, r3, r9, r4, r5, .inr ⟨rfl, rfl, by omega, fun z => S z ∨ Iv K2.length K3.length z, ⟨(y6 P k).text, (y6 P k).at_, y⟩, ?_, ?_, ?_, r7, ?_⟩⟩
        · rw [ycg gs.len]; exact r6
        · refine GsP.snoc (t3.keep fun c o hc ho => r10 c o ho (by have := hc.1; omega) (by have := hc.1; omega) fun hh => by have := (own.lt hh).2; have := hc.1; omega) (gs.keep fun c o hc ho => r10 c o (mK3.keep c o ho (by have := (hS c hc).1; omega) (by have := (hS c hc).1; omega)) (by have := (hS c hc).2.1; omega) (by have := (hS c hc).1; omega) (hS c hc).2.2) fun z hz hT => by have := (hS z hz).2.1; have := hT.1; omega
        · intro z hz
          rcases hz with hz | hz
          · obtain ⟨s1, s2, s3⟩ := hS z hz
            exact ⟨s1, by omega, r8 z (by omega) s3⟩
          · have := hz.1; have := hz.2
            exact ⟨by omega, by omega, r8 z (by omega) fun hh => by have := (own.lt hh).2; omega⟩
        · rw [yb5 hgv] at hg
          cases kw : (keyT (y6 P k3) == wAnd)
          · rw [kw, if_neg Bool.false_ne_true] at hg
            rw [if_neg Bool.false_ne_true]; exact hg
          · rw [kw, if_pos rfl] at hg
            rw [if_pos rfl]
            cases hq : fm P.en (P.L.length + 1) (P.L.drop (k3 + 1)) with
            | bad c a => rw [hq] at hg; exact hg
            | ok gs2 r => rw [hq] at hg; simp only at hg ⊢; rw [hg]; simp
theorem zpz {P : RP} {h : Heap} {R : PR Stm} (rc : Bool) (K : Heap) (k : Nat) (eK : Rd P K k 0 0 0) (mK : Mv P h K) (h0 : K[h.length]? = some (.cells z4 0 false)) (h1 : K[h.length + 1]? = some (.cells [str (kwOf rc), .slice none 0 0, nilP, str []] 0 false)) (hRk : R = zii P.en rc (P.L.drop k)) : LetS P h R rc (P.L.length - k + 1) K k := by
  refine ⟨.slice none 0 0, [], fun _ => False, [], rfl, eK, h0, h1, Own.nil _ _ _, trivial, fun z hz => hz.elim, by intro b hb; simp [blk] at hb, mK, Nat.zero_le _, ?_⟩
  unfold zii at hRk
  rw [zht P.en _ (P.L.length + 1) (P.L.drop k) (Nat.lt_succ_self _) (by simp; omega)] at hRk
  rw [hRk]
  cases fm P.en (P.L.length + 1) (P.L.drop k) <;> rfl
theorem ybk {P : RP} {k k' : Nat} {c : Ck} {x : Ex} (h : zfm P.en 32 (P.L.drop k) = .ok x (P.L.drop k')) : zco P.en c (P.L.drop k) = if keyT (y6 P k') == wAs then (if za9 (y6 P (k' + 1)) then .ok (.chk c x (y6 P (k' + 1)).text) (P.L.drop (k' + 1 + 1)) else .bad (zap P (k' + 1)) (za7 P (k' + 1))) else .ok (.chk c x []) (P.L.drop k') := by
  unfold zco
  rw [h]
  by_cases hk : k' < P.L.length
  · rw [gz hk]
    simp only
    rw [zu7]
    split
    · split <;> (rename_i hh; split at hh <;> first | (cases hh; done) | (rename_i hh2; cases hh; simp [hh2]) | skip)
      all_goals simp_all
    · rfl
  · rw [List.drop_eq_nil_of_le (by omega), j3 hk, zer]; rfl
theorem Rd.finS {P : RP} {h H : Heap} {i k x a : Nat} (e : Rd P h i 0 0 0) (e' : Rd P H k 0 x a) (m : Mv P h H) (v : Value) (hne : i ≠ k ∨ x ≠ 0) : AM.finish h v H = H := e.fin e' m v (by rcases hne with h | h <;> simp [h]; omega)
theorem zy7 {P : RP} {h E : Heap} {i k x a : Nat} {R : PR Stm} {rc : Bool} {a' : Option Addr} {n' c' : Nat} (e : Rd P h i 0 0 0) (e5 : Rd P E k 0 x a) (m5 : Mv P h E)
    (h1 : E[h.length + 1]? = some (.cells [str (kwOf rc), .slice a' n' c', nilP, str []] 0 false)) (hx : x ≠ 0) (hR : R = .bad x a) : StR P h (agg [str (kwOf rc), .slice a' n' c', nilP, str []]) (E.set h.length (.cells [str (kwOf rc), .slice a' n' c', nilP, str []] 0 false)) R := by
  rw [hR]
  exact ⟨_, rfl, rfl, hx, ⟨k, e.upd e5 (Nat.le_refl _) _⟩, m5.upd (Nat.le_refl _) _⟩
theorem zhi {P : RP} {h E : Heap} {i k : Nat} {c : Ck} (e : Rd P h i 0 0 0) (eE : Rd P E k 0 0 0) (mE : Mv P h E) (h0 : E[h.length]? = some (.cells z4 0 false)) (h1 : E[h.length + 1]? = some (.cells [str (ckS c), .slice none 0 0, nilP, str []] 0 false)) (hik : i < k) :
    ∃ b K3 k3 x a, DF FF xz [pt P.r] E = some (pt b, K3) ∧ K3[h.length + 1]? = some (.cells [str (ckS c), .slice none 0 0, nilP, str []] 0 false) ∧
      Rd P (K3.set (h.length + 1) (.cells [str (ckS c), .slice none 0 0, pt b, str []] 0 false)) k3 0 x a ∧ (K3.set (h.length + 1) (.cells [str (ckS c), .slice none 0 0, pt b, str []] 0 false))[h.length]? = some (.cells z4 0 false) ∧
      (K3.set (h.length + 1) (.cells [str (ckS c), .slice none 0 0, pt b, str []] 0 false))[h.length + 1]? = some (.cells [str (ckS c), .slice none 0 0, pt b, str []] 0 false) ∧
      ((x ≠ 0 ∧ (∀ v, AM.finish h v ((K3.set (h.length + 1) (.cells [str (ckS c), .slice none 0 0, pt b, str []] 0 false)).set h.length (.cells [str (ckS c), .slice none 0 0, pt b, str []] 0 false)) = (K3.set (h.length + 1) (.cells [str (ckS c), .slice none 0 0, pt b, str []] 0 false)).set h.length (.cells [str (ckS c), .slice none 0 0, pt b, str []] 0 false)) ∧
        StR P h (agg [str (ckS c), .slice none 0 0, pt b, str []]) ((K3.set (h.length + 1) (.cells [str (ckS c), .slice none 0 0, pt b, str []] 0 false)).set h.length (.cells [str (ckS c), .slice none 0 0, pt b, str []] 0 false)) (zco P.en c (P.L.drop k))) ∨
       (x = 0 ∧ ∃ K5, DF FF w7 [pt P.c, .slice (some ⟨K3.length, 0, some 0⟩) 1 1] (K3.set (h.length + 1) (.cells [str (ckS c), .slice none 0 0, pt b, str []] 0 false) ++ [.cells [str [97, 115]] 0 false]) = some (.bool (keyT (y6 P k3) == wAs), K5) ∧
        K5[h.length]? = some (.cells z4 0 false) ∧ K5[h.length + 1]? = some (.cells [str (ckS c), .slice none 0 0, pt b, str []] 0 false) ∧
        (((keyT (y6 P k3) == wAs) = false ∧ (∀ v, AM.finish h v (K5.set h.length (.cells [str (ckS c), .slice none 0 0, pt b, str []] 0 false)) = K5.set h.length (.cells [str (ckS c), .slice none 0 0, pt b, str []] 0 false)) ∧
          StR P h (agg [str (ckS c), .slice none 0 0, pt b, str []]) (K5.set h.length (.cells [str (ckS c), .slice none 0 0, pt b, str []] 0 false)) (zco P.en c (P.L.drop k))) ∨
         ((keyT (y6 P k3) == wAs) = true ∧ ∃ w p K6, DF FF jl [pt P.r] K5 = some (tup [str w, .int .i64 p], K6) ∧ K6[h.length + 1]? = some (.cells [str (ckS c), .slice none 0 0, pt b, str []] 0 false) ∧ K6[h.length]? = some (.cells z4 0 false) ∧
          (∀ v, AM.finish h v ((K6.set (h.length + 1) (.cells [str (ckS c), .slice none 0 0, pt b, str w] 0 false)).set h.length (.cells [str (ckS c), .slice none 0 0, pt b, str w] 0 false)) = (K6.set (h.length + 1) (.cells [str (ckS c), .slice none 0 0, pt b, str w] 0 false)).set h.length (.cells [str (ckS c), .slice none 0 0, pt b, str w] 0 false)) ∧
          StR P h (agg [str (ckS c), .slice none 0 0, pt b, str w]) ((K6.set (h.length + 1) (.cells [str (ckS c), .slice none 0 0, pt b, str w] 0 false)).set h.length (.cells [str (ckS c), .slice none 0 0, pt b, str w] 0 false)) (zco P.en c (P.L.drop k)))))) := by
  have lr := e.lr; have lc := e.lc; have lE := mE.le
  have lz := (List.getElem?_eq_some_iff.1 h1).1
  obtain ⟨v, K3, q3, x3⟩ := yat P 32 0 rfl E k eE
  obtain ⟨b, rfl⟩ := x3.ptr
  have m3 : Mv P E K3 := by
    cases hx : zfm P.en 32 (P.L.drop k) with
    | ok y r => rw [hx] at x3; obtain ⟨_, _, _, _, m⟩ := x3; exact m
    | bad c a => rw [hx] at x3; exact x3.2.2.1
  have t1 := m3.keep _ _ h1 (by omega) (by omega)
  have t0 := m3.keep _ _ h0 (by omega) (by omega)
  have l3 := (List.getElem?_eq_some_iff.1 t1).1
  have mF : Mv P h (K3.set (h.length + 1) (.cells [str (ckS c), .slice none 0 0, pt b, str []] 0 false)) := (mE.trans m3).upd (by omega) _
  have u0 : (K3.set (h.length + 1) (.cells [str (ckS c), .slice none 0 0, pt b, str []] 0 false))[h.length]? = some (.cells z4 0 false) := by rw [List.getElem?_set_ne (by omega)]; exact t0
  have u1 : (K3.set (h.length + 1) (.cells [str (ckS c), .slice none 0 0, pt b, str []] 0 false))[h.length + 1]? = some (.cells [str (ckS c), .slice none 0 0, pt b, str []] 0 false) := List.getElem?_set_self l3
  cases hx : zfm P.en 32 (P.L.drop k) with
  | bad ec ea =>
    rw [hx] at x3
    obtain ⟨hc, ⟨k3, e3⟩, _, _⟩ := x3
    have eF : Rd P (K3.set (h.length + 1) (.cells [str (ckS c), .slice none 0 0, pt b, str []] 0 false)) k3 0 ec ea := e.upd e3 (by omega) _
    have hR : zco P.en c (P.L.drop k) = .bad ec ea := by unfold zco; rw [hx]
    refine ⟨b, K3, k3, ec, ea, q3, t1, eF, u0, u1, .inl ⟨hc, fun v => e.finS (e.upd eF (Nat.le_refl _) _) (mF.upd (Nat.le_refl _) _) v (.inr hc), ?_⟩⟩
    rw [hR]
    exact ⟨_, rfl, rfl, hc, ⟨k3, e.upd eF (Nat.le_refl _) _⟩, mF.upd (Nat.le_refl _) _⟩
  | ok y r =>
    rw [hx] at x3
    obtain ⟨k3, rfl, e3, tr, _⟩ := x3
    have hsz := zc6 _ _ _ _ _ hx
    simp only [List.length_drop] at hsz
    have eF : Rd P (K3.set (h.length + 1) (.cells [str (ckS c), .slice none 0 0, pt b, str []] 0 false)) k3 0 0 0 := e.upd e3 (by omega) _
    obtain ⟨K5, q5, e5, m5⟩ := zh6 (eF.more [.cells [str wAs] 0 false]) (m := wAs) (by simp [wAs]) (zlb _ wAs)
    have m5' := (Mv.add P (K3.set (h.length + 1) (.cells [str (ckS c), .slice none 0 0, pt b, str []] 0 false)) [.cells [str wAs] 0 false]).trans m5
    have s0 := m5'.keep _ _ u0 (by omega) (by omega)
    have s1 := m5'.keep _ _ u1 (by omega) (by omega)
    have hR := ybk (c := c) hx
    have tr5 : ∀ G, Mv P K5 G → ∀ l l', TreeP ((G.set (h.length + 1) (.cells l 0 false)).set h.length (.cells l' 0 false)) (Iv h.length ((G.set (h.length + 1) (.cells l 0 false)).set h.length (.cells l' 0 false)).length) (pt b) y := fun G mG l l' =>
      (tr.keep fun z o hz ho => by
        have := hz.1
        rw [List.getElem?_set_ne (by omega), List.getElem?_set_ne (by omega)]
        exact mG.keep z o (m5'.keep z o (by rw [List.getElem?_set_ne (by omega)]; exact ho) (by omega) (by omega)) (by omega) (by omega)).weak fun z hz => ⟨by have := hz.1; omega, by have := hz.2; have h5 := m5'.le; have := mG.le; rw [List.length_set] at h5; rw [List.length_set, List.length_set]; omega⟩
    simp only [wAs, List.length_set] at q5
    refine ⟨b, K3, k3, 0, 0, q3, t1, eF, u0, u1, .inr ⟨rfl, K5, q5, s0, s1, ?_⟩⟩
    rw [hR]
    cases ka : (keyT (y6 P k3) == wAs)
    · rw [ka, if_neg Bool.false_ne_true] at e5
      rw [if_neg Bool.false_ne_true]
      refine .inl ⟨rfl, fun v => e.finS (e.upd e5 (Nat.le_refl _) _) ((mF.trans m5').upd (Nat.le_refl _) _) v (.inl (by omega)), _, k3, rfl, rfl, e.upd e5 (Nat.le_refl _) _, ⟨pt b, rfl, ?_⟩, (mF.trans m5').upd (Nat.le_refl _) _⟩
      have := tr5 K5 (Mv.refl P K5) [str (ckS c), .slice none 0 0, pt b, str []] [str (ckS c), .slice none 0 0, pt b, str []]
      rwa [ya0 s1] at this
    · rw [ka, if_pos rfl] at e5
      rw [if_pos rfl]
      obtain ⟨w, p, K6, q6, x6, m6⟩ := zxd e5
      have s0' := m6.keep _ _ s0 (by omega) (by omega)
      have s1' := m6.keep _ _ s1 (by omega) (by omega)
      have mG := (((mF.trans m5').trans m6).upd (b := h.length + 1) (by omega) (.cells [str (ckS c), .slice none 0 0, pt b, str w] 0 false)).upd (Nat.le_refl _) (.cells [str (ckS c), .slice none 0 0, pt b, str w] 0 false)
      cases hn : za9 (y6 P (k3 + 1))
      · rw [hn, if_neg Bool.false_ne_true] at x6
        rw [if_neg Bool.false_ne_true]
        have eG : Rd P ((K6.set (h.length + 1) (.cells [str (ckS c), .slice none 0 0, pt b, str w] 0 false)).set h.length (.cells [str (ckS c), .slice none 0 0, pt b, str w] 0 false)) _ 0 _ _ := e.upd (e.upd x6 (by omega) _) (Nat.le_refl _) _
        exact .inr ⟨rfl, w, p, K6, q6, s1', s0', fun v => e.finS eG mG v (.inr (fk P _)), _, rfl, rfl, fk P _, ⟨_, eG⟩, mG⟩
      · rw [hn, if_pos rfl] at x6
        rw [if_pos rfl]
        obtain ⟨rfl, rfl, x6⟩ := x6
        have eG : Rd P ((K6.set (h.length + 1) (.cells [str (ckS c), .slice none 0 0, pt b, str (y6 P (k3 + 1)).text] 0 false)).set h.length (.cells [str (ckS c), .slice none 0 0, pt b, str (y6 P (k3 + 1)).text] 0 false)) _ 0 _ _ := e.upd (e.upd x6 (by omega) _) (Nat.le_refl _) _
        exact .inr ⟨rfl, _, _, K6, q6, s1', s0', fun v => e.finS eG mG v (.inl (by omega)), _, _, rfl, rfl, eG, ⟨pt b, rfl, tr5 K6 m6 _ _⟩, mG⟩
set_option maxHeartbeats 8000000 in
theorem ztu {P : RP} {h : Heap} {i : Nat} (e : Rd P h i 0 0 0) (hi : i < P.L.length) : ∃ v h', DF FF gt [pt P.r] h = some (v, h') ∧ StR P h v h' (ze1 P.en (P.L.drop i)) := by
  refine wz zfk ?_
  have lr := e.lr; have lc := e.lc; have hL := P.len
  obtain ⟨R, hR⟩ : ∃ R, R = ze1 P.en (P.L.drop i) := ⟨_, rfl⟩
  rw [← hR]
  rw [gz hi, ze1] at hR
  have e0 := e.more [.cells z4 0 false, .cells z4 0 false]
  have m0 : Mv P h (h ++ [.cells z4 0 false, .cells z4 0 false]) := Mv.add P h _
  obtain ⟨H0, hH0⟩ : ∃ H0, H0 = h ++ [AObj.cells z4 0 false, .cells z4 0 false] := ⟨_, rfl⟩
  have o1 : H0[h.length]? = some (.cells z4 0 false) := by rw [hH0]; simp
  have o2 : H0[h.length + 1]? = some (.cells z4 0 false) := by rw [hH0]; simp
  have l2 : H0.length = h.length + 2 := by rw [hH0]; simp
  rw [← hH0] at e0 m0
  have hz : H0 = h ++ [AObj.cells [str [], .slice none 0 0, .pointer none, str []] 0 false, .cells [str [], .slice none 0 0, .pointer none, str []] 0 false] := hH0
  obtain ⟨K1, q1, e1, m1⟩ := zh6 (e0.more [.cells [str wLet] 0 false]) (m := wLet) (by simp [wLet]) (zlb H0 wLet)
  have m1' : Mv P H0 K1 := (Mv.add P H0 _).trans m1
  have p1 : ∀ K, Mv P H0 K → K[h.length]? = some (.cells z4 0 false) := fun K m => m.keep _ _ o1 (by omega) (by omega)
  have p2 : ∀ K, Mv P H0 K → K[h.length + 1]? = some (.cells z4 0 false) := fun K m => m.keep _ _ o2 (by omega) (by omega)
  simp only [wLet] at q1
  cases kl : (keyT (y6 P i) == wLet)
  · rw [kl, if_neg Bool.false_ne_true] at e1 hR
    rw [show (keyT (y6 P i) == [108, 101, 116]) = false from kl] at q1
    obtain ⟨K2, q2, e2, m2⟩ := zh6 (e1.more [.cells [str p8] 0 false]) (m := p8) (by simp [p8]) (zlb K1 p8)
    have m2' : Mv P H0 K2 := (m1'.trans (Mv.add P K1 _)).trans m2
    simp only [p8] at q2
    cases kacyclic : (keyT (y6 P i) == p8)
    rotate_left
    · rw [kacyclic, if_pos rfl] at e2 hR
      rw [show (keyT (y6 P i) == [97, 99, 121, 99, 108, 105, 99]) = true from kacyclic] at q2
      have oK := p2 K2 m2'
      have lzK := (List.getElem?_eq_some_iff.1 oK).1
      obtain ⟨E, hE⟩ : ∃ E, E = K2.set (h.length + 1) (.cells [str (ckS .acyclic), .slice none 0 0, nilP, str []] 0 false) := ⟨_, rfl⟩
      have wE : Heap.write1 K2 ⟨h.length + 1, 0, some 0⟩ (str [97, 99, 121, 99, 108, 105, 99]) = some E := by rw [ph oK (by simp [z4]), hE]; rfl
      have eE : Rd P E (i + 1) 0 0 0 := by rw [hE]; exact e.upd e2 (by omega) _
      have mE : Mv P h E := by rw [hE]; exact (m0.trans m2').upd (by omega) _
      have zE : E[h.length]? = some (.cells z4 0 false) := by rw [hE, List.getElem?_set_ne (by omega)]; exact p1 K2 m2'
      have uE : E[h.length + 1]? = some (.cells [str (ckS .acyclic), .slice none 0 0, nilP, str []] 0 false) := by rw [hE, List.getElem?_set_self lzK]
      obtain ⟨b, K3, k3, x, a, c1, c2, c3, c4, c5, c6⟩ := zhi e eE mE zE uE (by omega)
      have wF : Heap.write1 K3 ⟨h.length + 1, 2, some 0⟩ (pt b) = some (K3.set (h.length + 1) (.cells [str (ckS .acyclic), .slice none 0 0, pt b, str []] 0 false)) := by rw [ph c2 (by simp)]; rfl
      rw [hR]
      rcases c6 with ⟨hx, f1, f2⟩ | ⟨rfl, K5, d1, d2, d3, ⟨ka, f1, f2⟩ | ⟨ka, w, p, K6, g1, g2, g3, f1, f2⟩⟩
      · have rd3 : Heap.read (K3.set (h.length + 1) (.cells [str (ckS .acyclic), .slice none 0 0, pt b, str []] 0 false)) ⟨h.length + 1, 0, some 0⟩ 4 = some [str (ckS .acyclic), .slice none 0 0, pt b, str []] := zj8 c5 (by simp)
        have wr5 : Heap.write (K3.set (h.length + 1) (.cells [str (ckS .acyclic), .slice none 0 0, pt b, str []] 0 false)) ⟨h.length, 0, some 0⟩ [str (ckS .acyclic), .slice none 0 0, pt b, str []] = some ((K3.set (h.length + 1) (.cells [str (ckS .acyclic), .slice none 0 0, pt b, str []] 0 false)).set h.length (.cells [str (ckS .acyclic), .slice none 0 0, pt b, str []] 0 false)) := zdi c4 (by simp [z4])
        have rd4 : Heap.read ((K3.set (h.length + 1) (.cells [str (ckS .acyclic), .slice none 0 0, pt b, str []] 0 false)).set h.length (.cells [str (ckS .acyclic), .slice none 0 0, pt b, str []] 0 false)) ⟨h.length, 0, some 0⟩ 4 = some [str (ckS .acyclic), .slice none 0 0, pt b, str []] := f5 (List.getElem?_eq_some_iff.1 c4).1 (by simp)
        simp only [xu, z7, zr, xe, yl, zb, zw, zu, z8, zn, ye, zc, zp, w5, zo, zf, ze, zd, List.set_cons_succ, List.set_cons_zero, O_mv, yw, xf, yg, yf, List.map_cons, List.map_nil, zz, zk, x7, y8, ww, wd, yc, yd, xb, xi, yz, Nat.lt_add_one, List.cons_append, List.nil_append, List.length_cons, List.length_nil, Nat.reduceAdd, Nat.reduceSub, Nat.zero_add, zm, yb, zx, za, zi, slc, y0, xc, z6, zl, xd, qg, y4, ya, zq, zj, zh, zg, List.append_assoc, List.length_append, List.append_nil, Nat.add_zero, Option.map_some, List.getElem?_cons_zero, eq_self, yi, wk, Option.map_some, wo, zav, jo, ko, ← hz, e0.r0, q1,  e1.r0, q2, wE, c1, wF, fh c3 hx, rd3, wr5, rd4, f1]
        exact f2
      · rw [ka] at d1
        have rd3 : Heap.read K5 ⟨h.length + 1, 0, some 0⟩ 4 = some [str (ckS .acyclic), .slice none 0 0, pt b, str []] := zj8 d3 (by simp)
        have wr5 : Heap.write K5 ⟨h.length, 0, some 0⟩ [str (ckS .acyclic), .slice none 0 0, pt b, str []] = some (K5.set h.length (.cells [str (ckS .acyclic), .slice none 0 0, pt b, str []] 0 false)) := zdi d2 (by simp [z4])
        have rd4 : Heap.read (K5.set h.length (.cells [str (ckS .acyclic), .slice none 0 0, pt b, str []] 0 false)) ⟨h.length, 0, some 0⟩ 4 = some [str (ckS .acyclic), .slice none 0 0, pt b, str []] := f5 (List.getElem?_eq_some_iff.1 d2).1 (by simp)
        simp only [xu, z7, zr, xe, yl, zb, zw, zu, z8, zn, ye, zc, zp, xl, zo, zf, ze, zd, List.set_cons_succ, List.set_cons_zero, O_mv, yw, xf, yg, yf, List.map_cons, List.map_nil, zz, zk, x7, y8, ww, wd, yc, yd, xb, xi, yz, Nat.lt_add_one, List.cons_append, List.nil_append, List.length_cons, List.length_nil, Nat.reduceAdd, Nat.reduceSub, Nat.zero_add, zm, yb, zx, za, zi, slc, y0, xc, z6, zl, xd, qg, y4, ya, zq, zj, zh, zg, List.append_assoc, List.length_append, List.append_nil, Nat.add_zero, Option.map_some, List.getElem?_cons_zero, eq_self, yi, wk, Option.map_some, wo, zav, jo, ko, ← hz, e0.r0, q1,  e1.r0, q2, wE, c1, wF, ok_0 c3, c3.r0, List.length_set, d1, rd3, wr5, rd4, f1]
        exact f2
      · rw [ka] at d1
        have wG : Heap.write1 K6 ⟨h.length + 1, 3, some 0⟩ (str w) = some (K6.set (h.length + 1) (.cells [str (ckS .acyclic), .slice none 0 0, pt b, str w] 0 false)) := by rw [ph g2 (by simp)]; rfl
        have rd3 : Heap.read (K6.set (h.length + 1) (.cells [str (ckS .acyclic), .slice none 0 0, pt b, str w] 0 false)) ⟨h.length + 1, 0, some 0⟩ 4 = some [str (ckS .acyclic), .slice none 0 0, pt b, str w] := f5 (List.getElem?_eq_some_iff.1 g2).1 (by simp)
        have g3' : (K6.set (h.length + 1) (.cells [str (ckS .acyclic), .slice none 0 0, pt b, str w] 0 false))[h.length]? = some (.cells z4 0 false) := by rw [List.getElem?_set_ne (by omega)]; exact g3
        have wr5 : Heap.write (K6.set (h.length + 1) (.cells [str (ckS .acyclic), .slice none 0 0, pt b, str w] 0 false)) ⟨h.length, 0, some 0⟩ [str (ckS .acyclic), .slice none 0 0, pt b, str w] = some ((K6.set (h.length + 1) (.cells [str (ckS .acyclic), .slice none 0 0, pt b, str w] 0 false)).set h.length (.cells [str (ckS .acyclic), .slice none 0 0, pt b, str w] 0 false)) := zdi g3' (by simp [z4])
        have rd4 : Heap.read ((K6.set (h.length + 1) (.cells [str (ckS .acyclic), .slice none 0 0, pt b, str w] 0 false)).set h.length (.cells [str (ckS .acyclic), .slice none 0 0, pt b, str w] 0 false)) ⟨h.length, 0, some 0⟩ 4 = some [str (ckS .acyclic), .slice none 0 0, pt b, str w] := f5 (List.getElem?_eq_some_iff.1 g3').1 (by simp)
        simp only [xu, z7, zr, xe, zb, zw, zu, z8, zn, ye, zc, zp, xl, zo, zf, ze, zd, List.set_cons_succ, List.set_cons_zero, O_mv, yw, xf, yg, yf, List.map_cons, List.map_nil, zz, zk, x7, y8, ww, wd, yc, yd, xb, xi, yz, Nat.lt_add_one, List.cons_append, List.nil_append, List.length_cons, List.length_nil, Nat.reduceAdd, Nat.reduceSub, Nat.zero_add, zm, yb, zx, za, zi, slc, y0, xc, z6, xg, y7, zl, xd, qg, y4, ya, zq, zj, zh, zg, List.append_assoc, List.length_append, List.append_nil, Nat.add_zero, Option.map_some, List.getElem?_cons_zero, List.getElem?_cons_succ, eq_self, yi, wk, Option.map_some, wo, zav, jo, ko, ← hz, e0.r0, q1,  e1.r0, q2, wE, c1, wF, ok_0 c3, c3.r0, List.length_set, d1, g1, wG, rd3, wr5, rd4, f1]
        exact f2
    rw [kacyclic, if_neg Bool.false_ne_true] at e2 hR
    rw [show (keyT (y6 P i) == [97, 99, 121, 99, 108, 105, 99]) = false from kacyclic] at q2
    obtain ⟨K3, q3, e3, m3⟩ := zh6 (e2.more [.cells [str wIrr] 0 false]) (m := wIrr) (by simp [wIrr]) (zlb K2 wIrr)
    have m3' : Mv P H0 K3 := (m2'.trans (Mv.add P K2 _)).trans m3
    simp only [wIrr] at q3
    cases kirr : (keyT (y6 P i) == wIrr)
    rotate_left
    · rw [kirr, if_pos rfl] at e3 hR
      rw [show (keyT (y6 P i) == [105, 114, 114, 101, 102, 108, 101, 120, 105, 118, 101]) = true from kirr] at q3
      have oK := p2 K3 m3'
      have lzK := (List.getElem?_eq_some_iff.1 oK).1
      obtain ⟨E, hE⟩ : ∃ E, E = K3.set (h.length + 1) (.cells [str (ckS .irr), .slice none 0 0, nilP, str []] 0 false) := ⟨_, rfl⟩
      have wE : Heap.write1 K3 ⟨h.length + 1, 0, some 0⟩ (str [105, 114, 114, 101, 102, 108, 101, 120, 105, 118, 101]) = some E := by rw [ph oK (by simp [z4]), hE]; rfl
      have eE : Rd P E (i + 1) 0 0 0 := by rw [hE]; exact e.upd e3 (by omega) _
      have mE : Mv P h E := by rw [hE]; exact (m0.trans m3').upd (by omega) _
      have zE : E[h.length]? = some (.cells z4 0 false) := by rw [hE, List.getElem?_set_ne (by omega)]; exact p1 K3 m3'
      have uE : E[h.length + 1]? = some (.cells [str (ckS .irr), .slice none 0 0, nilP, str []] 0 false) := by rw [hE, List.getElem?_set_self lzK]
      obtain ⟨b, K3, k3, x, a, c1, c2, c3, c4, c5, c6⟩ := zhi e eE mE zE uE (by omega)
      have wF : Heap.write1 K3 ⟨h.length + 1, 2, some 0⟩ (pt b) = some (K3.set (h.length + 1) (.cells [str (ckS .irr), .slice none 0 0, pt b, str []] 0 false)) := by rw [ph c2 (by simp)]; rfl
      rw [hR]
      rcases c6 with ⟨hx, f1, f2⟩ | ⟨rfl, K5, d1, d2, d3, ⟨ka, f1, f2⟩ | ⟨ka, w, p, K6, g1, g2, g3, f1, f2⟩⟩
      · have rd3 : Heap.read (K3.set (h.length + 1) (.cells [str (ckS .irr), .slice none 0 0, pt b, str []] 0 false)) ⟨h.length + 1, 0, some 0⟩ 4 = some [str (ckS .irr), .slice none 0 0, pt b, str []] := zj8 c5 (by simp)
        have wr5 : Heap.write (K3.set (h.length + 1) (.cells [str (ckS .irr), .slice none 0 0, pt b, str []] 0 false)) ⟨h.length, 0, some 0⟩ [str (ckS .irr), .slice none 0 0, pt b, str []] = some ((K3.set (h.length + 1) (.cells [str (ckS .irr), .slice none 0 0, pt b, str []] 0 false)).set h.length (.cells [str (ckS .irr), .slice none 0 0, pt b, str []] 0 false)) := zdi c4 (by simp [z4])
        have rd4 : Heap.read ((K3.set (h.length + 1) (.cells [str (ckS .irr), .slice none 0 0, pt b, str []] 0 false)).set h.length (.cells [str (ckS .irr), .slice none 0 0, pt b, str []] 0 false)) ⟨h.length, 0, some 0⟩ 4 = some [str (ckS .irr), .slice none 0 0, pt b, str []] := f5 (List.getElem?_eq_some_iff.1 c4).1 (by simp)
        simp only [xu, z7, zr, xe, yl, zb, zw, zu, z8, zn, ye, zc, zp, w5, zo, zf, ze, zd, List.set_cons_succ, List.set_cons_zero, O_mv, yw, xf, yg, yf, List.map_cons, List.map_nil, zz, zk, x7, y8, ww, wd, yc, yd, xb, xi, yz, Nat.lt_add_one, List.cons_append, List.nil_append, List.length_cons, List.length_nil, Nat.reduceAdd, Nat.reduceSub, Nat.zero_add, zm, yb, zx, za, zi, slc, y0, xc, z6, zl, xd, qg, y4, ya, zq, zj, zh, zg, List.append_assoc, List.length_append, List.append_nil, Nat.add_zero, Option.map_some, List.getElem?_cons_zero, eq_self, yi, wk, Option.map_some, wo, zav, jo, ko, ← hz, e0.r0, q1,  e1.r0, q2, e2.r0, q3, wE, c1, wF, fh c3 hx, rd3, wr5, rd4, f1]
        exact f2
      · rw [ka] at d1
        have rd3 : Heap.read K5 ⟨h.length + 1, 0, some 0⟩ 4 = some [str (ckS .irr), .slice none 0 0, pt b, str []] := zj8 d3 (by simp)
        have wr5 : Heap.write K5 ⟨h.length, 0, some 0⟩ [str (ckS .irr), .slice none 0 0, pt b, str []] = some (K5.set h.length (.cells [str (ckS .irr), .slice none 0 0, pt b, str []] 0 false)) := zdi d2 (by simp [z4])
        have rd4 : Heap.read (K5.set h.length (.cells [str (ckS .irr), .slice none 0 0, pt b, str []] 0 false)) ⟨h.length, 0, some 0⟩ 4 = some [str (ckS .irr), .slice none 0 0, pt b, str []] := f5 (List.getElem?_eq_some_iff.1 d2).1 (by simp)
        simp only [xu, z7, zr, xe, yl, zb, zw, zu, z8, zn, ye, zc, zp, xl, zo, zf, ze, zd, List.set_cons_succ, List.set_cons_zero, O_mv, yw, xf, yg, yf, List.map_cons, List.map_nil, zz, zk, x7, y8, ww, wd, yc, yd, xb, xi, yz, Nat.lt_add_one, List.cons_append, List.nil_append, List.length_cons, List.length_nil, Nat.reduceAdd, Nat.reduceSub, Nat.zero_add, zm, yb, zx, za, zi, slc, y0, xc, z6, zl, xd, qg, y4, ya, zq, zj, zh, zg, List.append_assoc, List.length_append, List.append_nil, Nat.add_zero, Option.map_some, List.getElem?_cons_zero, eq_self, yi, wk, Option.map_some, wo, zav, jo, ko, ← hz, e0.r0, q1,  e1.r0, q2, e2.r0, q3, wE, c1, wF, ok_0 c3, c3.r0, List.length_set, d1, rd3, wr5, rd4, f1]
        exact f2
      · rw [ka] at d1
        have wG : Heap.write1 K6 ⟨h.length + 1, 3, some 0⟩ (str w) = some (K6.set (h.length + 1) (.cells [str (ckS .irr), .slice none 0 0, pt b, str w] 0 false)) := by rw [ph g2 (by simp)]; rfl
        have rd3 : Heap.read (K6.set (h.length + 1) (.cells [str (ckS .irr), .slice none 0 0, pt b, str w] 0 false)) ⟨h.length + 1, 0, some 0⟩ 4 = some [str (ckS .irr), .slice none 0 0, pt b, str w] := f5 (List.getElem?_eq_some_iff.1 g2).1 (by simp)
        have g3' : (K6.set (h.length + 1) (.cells [str (ckS .irr), .slice none 0 0, pt b, str w] 0 false))[h.length]? = some (.cells z4 0 false) := by rw [List.getElem?_set_ne (by omega)]; exact g3
        have wr5 : Heap.write (K6.set (h.length + 1) (.cells [str (ckS .irr), .slice none 0 0, pt b, str w] 0 false)) ⟨h.length, 0, some 0⟩ [str (ckS .irr), .slice none 0 0, pt b, str w] = some ((K6.set (h.length + 1) (.cells [str (ckS .irr), .slice none 0 0, pt b, str w] 0 false)).set h.length (.cells [str (ckS .irr), .slice none 0 0, pt b, str w] 0 false)) := zdi g3' (by simp [z4])
        have rd4 : Heap.read ((K6.set (h.length + 1) (.cells [str (ckS .irr), .slice none 0 0, pt b, str w] 0 false)).set h.length (.cells [str (ckS .irr), .slice none 0 0, pt b, str w] 0 false)) ⟨h.length, 0, some 0⟩ 4 = some [str (ckS .irr), .slice none 0 0, pt b, str w] := f5 (List.getElem?_eq_some_iff.1 g3').1 (by simp)
        simp only [xu, z7, zr, xe, zb, zw, zu, z8, zn, ye, zc, zp, xl, zo, zf, ze, zd, List.set_cons_succ, List.set_cons_zero, O_mv, yw, xf, yg, yf, List.map_cons, List.map_nil, zz, zk, x7, y8, ww, wd, yc, yd, xb, xi, yz, Nat.lt_add_one, List.cons_append, List.nil_append, List.length_cons, List.length_nil, Nat.reduceAdd, Nat.reduceSub, Nat.zero_add, zm, yb, zx, za, zi, slc, y0, xc, z6, xg, y7, zl, xd, qg, y4, ya, zq, zj, zh, zg, List.append_assoc, List.length_append, List.append_nil, Nat.add_zero, Option.map_some, List.getElem?_cons_zero, List.getElem?_cons_succ, eq_self, yi, wk, Option.map_some, wo, zav, jo, ko, ← hz, e0.r0, q1,  e1.r0, q2, e2.r0, q3, wE, c1, wF, ok_0 c3, c3.r0, List.length_set, d1, g1, wG, rd3, wr5, rd4, f1]
        exact f2
    rw [kirr, if_neg Bool.false_ne_true] at e3 hR
    rw [show (keyT (y6 P i) == [105, 114, 114, 101, 102, 108, 101, 120, 105, 118, 101]) = false from kirr] at q3
    obtain ⟨K4, q4, e4, m4⟩ := zh6 (e3.more [.cells [str zdw] 0 false]) (m := zdw) (by simp [zdw]) (zlb K3 zdw)
    have m4' : Mv P H0 K4 := (m3'.trans (Mv.add P K3 _)).trans m4
    simp only [zdw] at q4
    cases kempty : (keyT (y6 P i) == zdw)
    rotate_left
    · rw [kempty, if_pos rfl] at e4 hR
      rw [show (keyT (y6 P i) == [101, 109, 112, 116, 121]) = true from kempty] at q4
      have oK := p2 K4 m4'
      have lzK := (List.getElem?_eq_some_iff.1 oK).1
      obtain ⟨E, hE⟩ : ∃ E, E = K4.set (h.length + 1) (.cells [str (ckS .empty), .slice none 0 0, nilP, str []] 0 false) := ⟨_, rfl⟩
      have wE : Heap.write1 K4 ⟨h.length + 1, 0, some 0⟩ (str [101, 109, 112, 116, 121]) = some E := by rw [ph oK (by simp [z4]), hE]; rfl
      have eE : Rd P E (i + 1) 0 0 0 := by rw [hE]; exact e.upd e4 (by omega) _
      have mE : Mv P h E := by rw [hE]; exact (m0.trans m4').upd (by omega) _
      have zE : E[h.length]? = some (.cells z4 0 false) := by rw [hE, List.getElem?_set_ne (by omega)]; exact p1 K4 m4'
      have uE : E[h.length + 1]? = some (.cells [str (ckS .empty), .slice none 0 0, nilP, str []] 0 false) := by rw [hE, List.getElem?_set_self lzK]
      obtain ⟨b, K3, k3, x, a, c1, c2, c3, c4, c5, c6⟩ := zhi e eE mE zE uE (by omega)
      have wF : Heap.write1 K3 ⟨h.length + 1, 2, some 0⟩ (pt b) = some (K3.set (h.length + 1) (.cells [str (ckS .empty), .slice none 0 0, pt b, str []] 0 false)) := by rw [ph c2 (by simp)]; rfl
      rw [hR]
      rcases c6 with ⟨hx, f1, f2⟩ | ⟨rfl, K5, d1, d2, d3, ⟨ka, f1, f2⟩ | ⟨ka, w, p, K6, g1, g2, g3, f1, f2⟩⟩
      · have rd3 : Heap.read (K3.set (h.length + 1) (.cells [str (ckS .empty), .slice none 0 0, pt b, str []] 0 false)) ⟨h.length + 1, 0, some 0⟩ 4 = some [str (ckS .empty), .slice none 0 0, pt b, str []] := zj8 c5 (by simp)
        have wr5 : Heap.write (K3.set (h.length + 1) (.cells [str (ckS .empty), .slice none 0 0, pt b, str []] 0 false)) ⟨h.length, 0, some 0⟩ [str (ckS .empty), .slice none 0 0, pt b, str []] = some ((K3.set (h.length + 1) (.cells [str (ckS .empty), .slice none 0 0, pt b, str []] 0 false)).set h.length (.cells [str (ckS .empty), .slice none 0 0, pt b, str []] 0 false)) := zdi c4 (by simp [z4])
        have rd4 : Heap.read ((K3.set (h.length + 1) (.cells [str (ckS .empty), .slice none 0 0, pt b, str []] 0 false)).set h.length (.cells [str (ckS .empty), .slice none 0 0, pt b, str []] 0 false)) ⟨h.length, 0, some 0⟩ 4 = some [str (ckS .empty), .slice none 0 0, pt b, str []] := f5 (List.getElem?_eq_some_iff.1 c4).1 (by simp)
        simp only [xu, z7, zr, xe, yl, zb, zw, zu, z8, zn, ye, zc, zp, w5, zo, zf, ze, zd, List.set_cons_succ, List.set_cons_zero, O_mv, yw, xf, yg, yf, List.map_cons, List.map_nil, zz, zk, x7, y8, ww, wd, yc, yd, xb, xi, yz, Nat.lt_add_one, List.cons_append, List.nil_append, List.length_cons, List.length_nil, Nat.reduceAdd, Nat.reduceSub, Nat.zero_add, zm, yb, zx, za, zi, slc, y0, xc, z6, zl, xd, qg, y4, ya, zq, zj, zh, zg, List.append_assoc, List.length_append, List.append_nil, Nat.add_zero, Option.map_some, List.getElem?_cons_zero, eq_self, yi, wk, Option.map_some, wo, zav, jo, ko, ← hz, e0.r0, q1,  e1.r0, q2, e2.r0, q3, e3.r0, q4, wE, c1, wF, fh c3 hx, rd3, wr5, rd4, f1]
        exact f2
      · rw [ka] at d1
        have rd3 : Heap.read K5 ⟨h.length + 1, 0, some 0⟩ 4 = some [str (ckS .empty), .slice none 0 0, pt b, str []] := zj8 d3 (by simp)
        have wr5 : Heap.write K5 ⟨h.length, 0, some 0⟩ [str (ckS .empty), .slice none 0 0, pt b, str []] = some (K5.set h.length (.cells [str (ckS .empty), .slice none 0 0, pt b, str []] 0 false)) := zdi d2 (by simp [z4])
        have rd4 : Heap.read (K5.set h.length (.cells [str (ckS .empty), .slice none 0 0, pt b, str []] 0 false)) ⟨h.length, 0, some 0⟩ 4 = some [str (ckS .empty), .slice none 0 0, pt b, str []] := f5 (List.getElem?_eq_some_iff.1 d2).1 (by simp)
        simp only [xu, z7, zr, xe, yl, zb, zw, zu, z8, zn, ye, zc, zp, xl, zo, zf, ze, zd, List.set_cons_succ, List.set_cons_zero, O_mv, yw, xf, yg, yf, List.map_cons, List.map_nil, zz, zk, x7, y8, ww, wd, yc, yd, xb, xi, yz, Nat.lt_add_one, List.cons_append, List.nil_append, List.length_cons, List.length_nil, Nat.reduceAdd, Nat.reduceSub, Nat.zero_add, zm, yb, zx, za, zi, slc, y0, xc, z6, zl, xd, qg, y4, ya, zq, zj, zh, zg, List.append_assoc, List.length_append, List.append_nil, Nat.add_zero, Option.map_some, List.getElem?_cons_zero, eq_self, yi, wk, Option.map_some, wo, zav, jo, ko, ← hz, e0.r0, q1,  e1.r0, q2, e2.r0, q3, e3.r0, q4, wE, c1, wF, ok_0 c3, c3.r0, List.length_set, d1, rd3, wr5, rd4, f1]
        exact f2
      · rw [ka] at d1
        have wG : Heap.write1 K6 ⟨h.length + 1, 3, some 0⟩ (str w) = some (K6.set (h.length + 1) (.cells [str (ckS .empty), .slice none 0 0, pt b, str w] 0 false)) := by rw [ph g2 (by simp)]; rfl
        have rd3 : Heap.read (K6.set (h.length + 1) (.cells [str (ckS .empty), .slice none 0 0, pt b, str w] 0 false)) ⟨h.length + 1, 0, some 0⟩ 4 = some [str (ckS .empty), .slice none 0 0, pt b, str w] := f5 (List.getElem?_eq_some_iff.1 g2).1 (by simp)
        have g3' : (K6.set (h.length + 1) (.cells [str (ckS .empty), .slice none 0 0, pt b, str w] 0 false))[h.length]? = some (.cells z4 0 false) := by rw [List.getElem?_set_ne (by omega)]; exact g3
        have wr5 : Heap.write (K6.set (h.length + 1) (.cells [str (ckS .empty), .slice none 0 0, pt b, str w] 0 false)) ⟨h.length, 0, some 0⟩ [str (ckS .empty), .slice none 0 0, pt b, str w] = some ((K6.set (h.length + 1) (.cells [str (ckS .empty), .slice none 0 0, pt b, str w] 0 false)).set h.length (.cells [str (ckS .empty), .slice none 0 0, pt b, str w] 0 false)) := zdi g3' (by simp [z4])
        have rd4 : Heap.read ((K6.set (h.length + 1) (.cells [str (ckS .empty), .slice none 0 0, pt b, str w] 0 false)).set h.length (.cells [str (ckS .empty), .slice none 0 0, pt b, str w] 0 false)) ⟨h.length, 0, some 0⟩ 4 = some [str (ckS .empty), .slice none 0 0, pt b, str w] := f5 (List.getElem?_eq_some_iff.1 g3').1 (by simp)
        simp only [xu, z7, zr, xe, zb, zw, zu, z8, zn, ye, zc, zp, xl, zo, zf, ze, zd, List.set_cons_succ, List.set_cons_zero, O_mv, yw, xf, yg, yf, List.map_cons, List.map_nil, zz, zk, x7, y8, ww, wd, yc, yd, xb, xi, yz, Nat.lt_add_one, List.cons_append, List.nil_append, List.length_cons, List.length_nil, Nat.reduceAdd, Nat.reduceSub, Nat.zero_add, zm, yb, zx, za, zi, slc, y0, xc, z6, xg, y7, zl, xd, qg, y4, ya, zq, zj, zh, zg, List.append_assoc, List.length_append, List.append_nil, Nat.add_zero, Option.map_some, List.getElem?_cons_zero, List.getElem?_cons_succ, eq_self, yi, wk, Option.map_some, wo, zav, jo, ko, ← hz, e0.r0, q1,  e1.r0, q2, e2.r0, q3, e3.r0, q4, wE, c1, wF, ok_0 c3, c3.r0, List.length_set, d1, g1, wG, rd3, wr5, rd4, f1]
        exact f2
    rw [kempty, if_neg Bool.false_ne_true] at e4 hR
    rw [show (keyT (y6 P i) == [101, 109, 112, 116, 121]) = false from kempty] at q4
    obtain ⟨K5, q5, e5, m5⟩ := zfu e4
    have m5' := m4'.trans m5
    have z0 := p1 K5 m5'
    have z1 := p2 K5 m5'
    have hz4 : z4 = [str [], .slice none 0 0, .pointer none, str []] := rfl
    have rd3 : Heap.read K5 ⟨h.length + 1, 0, some 0⟩ 4 = some [str [], .slice none 0 0, .pointer none, str []] := zj8 z1 (by simp [z4])
    have wr5 : Heap.write K5 ⟨h.length, 0, some 0⟩ [str [], .slice none 0 0, .pointer none, str []] = some (K5.set h.length (.cells z4 0 false)) := zdi z0 (by simp [z4])
    have rd4 : Heap.read (K5.set h.length (.cells z4 0 false)) ⟨h.length, 0, some 0⟩ 4 = some [str [], .slice none 0 0, .pointer none, str []] := f5 (List.getElem?_eq_some_iff.1 z0).1 (by simp [z4])
    have f := fun v => e.finS (e.upd e5 (Nat.le_refl _) (.cells z4 0 false)) ((m0.trans m5').upd (Nat.le_refl _) _) v (.inr (fk P i))
    simp only [xu, z7, zr, xe, zb, zu, z8, zn, zc, zp, zo, zf, ze, zd, List.set_cons_succ, List.set_cons_zero, O_mv, yg, yf, List.map_cons, List.map_nil, zz, zk, x7, y8, ww, wd, yc, yd, xb, xi, yz, Nat.lt_add_one, List.cons_append, List.nil_append, List.length_cons, List.length_nil, Nat.reduceAdd, Nat.reduceSub, Nat.zero_add, zm, yb, zx, za, y5, xx, slc, y0, xc, z6, zl, y4, ya, zq, zj, zh, zg, List.append_assoc, List.length_append, List.append_nil, Nat.add_zero, Option.map_some, List.getElem?_cons_zero, eq_self, yi, Option.map_some, wo, zav, jo, ko, ← hz, e0.r0, q1,  e1.r0, q2, e2.r0, q3, e3.r0, q4, q5, rd3, wr5, rd4, f]
    rw [hR]
    have hc : zap P i = 22 := by unfold zap; rw [if_pos hi]
    have ha : za7 P i = (y6 P i).at_ := by unfold za7; rw [if_pos hi]
    rw [hc, ha] at e5
    exact ⟨_, rfl, by simp, by omega, ⟨i, e.upd e5 (Nat.le_refl _) _⟩, (m0.trans m5').upd (Nat.le_refl _) _⟩
  · rw [kl, if_pos rfl] at e1 hR
    rw [show (keyT (y6 P i) == [108, 101, 116]) = true from kl] at q1
    have hRk : R = if keyT (y6 P (i + 1)) == wRec then zii P.en true (P.L.drop (i + 1 + 1)) else zii P.en false (P.L.drop (i + 1)) := by
      rw [hR]
      by_cases hk : i + 1 < P.L.length
      · rw [gz hk]; rfl
      · rw [List.drop_eq_nil_of_le (by omega), j3 hk, zer]; rfl
    have oK1 := p2 K1 m1'
    have hlK1 := (List.getElem?_eq_some_iff.1 oK1).1
    have eK1 : Rd P (K1.set (h.length + 1) (.cells [str wLet, .slice none 0 0, nilP, str []] 0 false)) (i + 1) 0 0 0 := e.upd e1 (by omega) _
    have mK1 : Mv P h (K1.set (h.length + 1) (.cells [str wLet, .slice none 0 0, nilP, str []] 0 false)) := (m0.trans m1').upd (by omega) _
    have zE1 : (K1.set (h.length + 1) (.cells [str wLet, .slice none 0 0, nilP, str []] 0 false))[h.length]? = some (.cells z4 0 false) := by rw [List.getElem?_set_ne (by omega)]; exact p1 K1 m1'
    obtain ⟨E1, hE1⟩ : ∃ E1, E1 = K1.set (h.length + 1) (.cells [str wLet, .slice none 0 0, nilP, str []] 0 false) := ⟨_, rfl⟩
    have oE1 : E1[h.length + 1]? = some (.cells [str wLet, .slice none 0 0, nilP, str []] 0 false) := by rw [hE1, List.getElem?_set_self hlK1]
    rw [← hE1] at eK1 mK1 zE1
    obtain ⟨K2, q2, e2, m2⟩ := zh6 (eK1.more [.cells [str wRec] 0 false]) (m := wRec) (by simp [wRec]) (zlb E1 wRec)
    have m2' : Mv P E1 K2 := (Mv.add P E1 _).trans m2
    have zK2 := m2'.keep _ _ zE1 (by omega) (by omega)
    have oK2 : K2[h.length + 1]? = some (.cells [str wLet, .slice none 0 0, nilP, str []] 0 false) := m2'.keep _ _ oE1 (by omega) (by omega)
    have hlK2 := (List.getElem?_eq_some_iff.1 oK2).1
    simp only [wRec] at q2
    have w1 : Heap.write1 K1 ⟨h.length + 1, 0, some 0⟩ (str [108, 101, 116]) = some E1 := by rw [ph oK1 (by simp [z4]), hE1]; rfl
    have w2 : Heap.write1 K2 ⟨h.length + 1, 0, some 0⟩ (str [114, 101, 99]) = some (K2.set (h.length + 1) (.cells [str wRec, .slice none 0 0, nilP, str []] 0 false)) := by rw [ph oK2 (by simp)]; rfl
    cases kr : (keyT (y6 P (i + 1)) == wRec)
    all_goals rw [kr] at hRk e2; rw [show (keyT (y6 P (i + 1)) == [114, 101, 99]) = _ from kr] at q2
    all_goals first | rw [if_neg Bool.false_ne_true] at hRk e2 | rw [if_pos rfl] at hRk e2
    · have L0 := zpz (h := h) false K2 (i + 1) e2 (mK1.trans m2') zK2 oK2 hRk
      simp only [xu, z7, zr, yl, zb, zw, zu, z8, zn, zc, zp, zo, zf, ze, zd, List.set_cons_succ, List.set_cons_zero, O_mv, yg, yf, List.map_cons, List.map_nil, zz, zk, ww, wd, yc, yd, xb, xi, yz, Nat.lt_add_one, List.cons_append, List.nil_append, List.length_cons, List.length_nil, Nat.reduceSub, Nat.zero_add, zm, yb, zx, za, slc, y0, xc, z6, zl, xd, zq, zj, zh, zg, List.append_assoc, List.length_append, List.append_nil, Nat.add_zero, List.getElem?_cons_zero, yi, wk, wo, ← hz, e0.r0, q1, w1, eK1.r0, q2]
      refine zi6 (LetI P h R false i) ?_ (P.L.length - (i + 1) + 1) _ ⟨K2, i + 1, by omega, junk rfl, L0⟩
      rintro m st ⟨K, k, hik, ⟨j, rfl⟩, s, vs, S, acc, rfl, eK, hz0, hz1, own, gs, hS, hb, mK, hacc, hg⟩
      obtain ⟨w, p, J1, J2, J3, b, a', n', c', J4, k3, x, a, r1, r2, r3, r4, r5, r6, r7, r8, r9, r10, r11, r12, r13⟩ := zps e eK hz0 hz1 own gs hS hb mK hacc hg
      have lK := mK.le
      have lz := (List.getElem?_eq_some_iff.1 hz1).1
      have lJ1 := (List.getElem?_eq_some_iff.1 r2).1
      have lJ3 := (List.getElem?_eq_some_iff.1 r5).1
      have wr1 : Heap.write1 J1 ⟨K.length, 0, some 0⟩ (str w) = some (J1.set K.length (.cells [str w, .int .i64 0, nilP] 0 false)) := by rw [ph r2 (by simp)]; rfl
      have wr2 : Heap.write1 (J1.set K.length (.cells [str w, .int .i64 0, nilP] 0 false)) ⟨K.length, 1, some 0⟩ (.int .i64 p) = some (J1.set K.length (.cells [str w, .int .i64 p, nilP] 0 false)) := by rw [zhk lJ1 (by simp)]; rfl
      have wr3 : Heap.write1 J3 ⟨K.length, 2, some 0⟩ (pt b) = some (J3.set K.length (.cells [str w, .int .i64 p, pt b] 0 false)) := by rw [ph r5 (by simp)]; rfl
      have rd1 : Heap.read1 (J3.set K.length (.cells [str w, .int .i64 p, pt b] 0 false)) ⟨h.length + 1, 1, some 0⟩ = some s := by rw [yb4 (by simp; omega), we r6]; rfl
      have rd2 : Heap.read (J3.set K.length (.cells [str w, .int .i64 p, pt b] 0 false)) ⟨K.length, 0, some 0⟩ 3 = some [str w, .int .i64 p, pt b] := f5 lJ3 (by simp)
      obtain ⟨E, hE⟩ : ∃ E, E = J4.set (h.length + 1) (.cells [str (kwOf false), .slice a' n' c', nilP, str []] 0 false) := ⟨_, rfl⟩
      have wr4 : Heap.write1 J4 ⟨h.length + 1, 1, some 0⟩ (.slice a' n' c') = some E := by rw [ph r8 (by simp), hE]; rfl
      rw [← hE] at r9 r10 r11 r12 r13
      have row4 : ([str (kwOf false), .slice a' n' c', nilP, str []] : List Value).length = 4 := by simp
      rcases r13 with ⟨hx, hRb⟩ | ⟨rfl, rfl, hk3, S', g, g1, g2, g3, g4, g5⟩
      · have rd3 : Heap.read E ⟨h.length + 1, 0, some 0⟩ 4 = some [str (kwOf false), .slice a' n' c', nilP, str []] := zj8 r12 (by simp)
        have wr5 : Heap.write E ⟨h.length, 0, some 0⟩ [str (kwOf false), .slice a' n' c', nilP, str []] = some (E.set h.length (.cells [str (kwOf false), .slice a' n' c', nilP, str []] 0 false)) := zdi r11 (by simp [z4])
        have rd4 : Heap.read (E.set h.length (.cells [str (kwOf false), .slice a' n' c', nilP, str []] 0 false)) ⟨h.length, 0, some 0⟩ 4 = some [str (kwOf false), .slice a' n' c', nilP, str []] := f5 (List.getElem?_eq_some_iff.1 r11).1 (by simp)
        simp only [z7, zr, xe, zb, zw, z8, zn, ye, zc, zp, wi, zo, zf, ze, zd, List.set_cons_succ, List.set_cons_zero, O_mv, yw, xf, yg, O_un, yf, List.map_cons, List.map_nil, zz, zk, x7, y8, ww, wd, yc, yd, xb, xi, vp, List.length_cons, List.length_nil, Nat.reduceAdd, Nat.zero_add, Bool.not_false, zm, yb, zx, za, y5, xx, zch, slc, qv, y0, xc, z6, xg, y7, zl, xd, x5, fq, qg, y4, ya, List.append_nil, Nat.add_zero, Option.map_some, List.getElem?_cons_zero, List.getElem?_cons_succ, eq_self, wk, Option.map_some, zav, jo, ko, r1, wr1, wr2, r3, r4, wr3, rd1, rd2, zjq, List.length_set, r7, wr4, fh r9 hx, rd3, wr5, rd4]
        have st := zy7 e r9 r10 r12 hx hRb
        rw [e.finS (e.upd r9 (Nat.le_refl _) _) (r10.upd (Nat.le_refl _) _) _ (.inr hx)]
        exact st
      · obtain ⟨J5, q5, e5, m5⟩ := zh6 (r9.more [.cells [str wAnd] 0 false]) (m := wAnd) (by simp [wAnd]) (zlb E wAnd)
        have m5' : Mv P E J5 := (Mv.add P E _).trans m5
        simp only [wAnd] at q5
        cases kw : (keyT (y6 P k3) == wAnd)
        · rw [kw, if_neg Bool.false_ne_true] at e5 g5
          rw [show (keyT (y6 P k3) == [97, 110, 100]) = false from kw] at q5
          have t11 := m5'.keep _ _ r11 (by omega) (by omega)
          have t12 := m5'.keep _ _ r12 (by omega) (by omega)
          have rd3 : Heap.read J5 ⟨h.length + 1, 0, some 0⟩ 4 = some [str (kwOf false), .slice a' n' c', nilP, str []] := zj8 t12 (by simp)
          have wr5 : Heap.write J5 ⟨h.length, 0, some 0⟩ [str (kwOf false), .slice a' n' c', nilP, str []] = some (J5.set h.length (.cells [str (kwOf false), .slice a' n' c', nilP, str []] 0 false)) := zdi t11 (by simp [z4])
          have rd4 : Heap.read (J5.set h.length (.cells [str (kwOf false), .slice a' n' c', nilP, str []] 0 false)) ⟨h.length, 0, some 0⟩ 4 = some [str (kwOf false), .slice a' n' c', nilP, str []] := f5 (List.getElem?_eq_some_iff.1 t11).1 (by simp)
          simp only [z7, zr, xe, zb, zw, z8, zn, ye, zc, zp, yr, zo, zf, ze, zd, List.set_cons_succ, List.set_cons_zero, O_mv, yw, xf, yg, O_un, yf, List.map_cons, List.map_nil, zz, zk, x7, y8, ww, wd, yc, yd, xb, xi, yz, Nat.lt_add_one, vp, List.length_cons, List.length_nil, Nat.reduceAdd, Nat.zero_add, Bool.not_true, Bool.not_false, zm, yb, zx, za, y5, xx, zch, slc, qv, y0, xc, z6, xg, y7, zl, xd, x5, fq, qg, y4, ya, zq, zj, List.append_nil, Nat.add_zero, Option.map_some, List.getElem?_cons_zero, List.getElem?_cons_succ, eq_self, wk, Option.map_some, wo, zav, jo, ko, r1, wr1, wr2, r3, r4, wr3, rd1, rd2, zjq, List.length_set, r7, wr4, ok_0 r9, r9.r0, q5, rd3, wr5, rd4]
          rw [e.finS (e.upd e5 (Nat.le_refl _) _) ((r10.trans m5').upd (Nat.le_refl _) _) _ (.inl (by omega)), g5]
          have l5 := m5'.le
          refine ⟨_, k3, rfl, rfl, e.upd e5 (Nat.le_refl _) _, ⟨.slice a' n' c', vs ++ [pt b], S', rfl, ?_, ?_, ?_, ?_⟩, (r10.trans m5').upd (Nat.le_refl _) _⟩
          · exact (g1.sl.keep fun c hc o ho => by
              have := g4 c hc
              rw [List.getElem?_set_ne (by omega)]
              exact m5'.keep c o ho (by omega) (by omega))
          · exact g2.keep fun c o hc ho => by
              have := (g3 c hc).1
              rw [List.getElem?_set_ne (by omega)]
              exact m5'.keep c o ho (by omega) (by omega)
          · intro z hz
            obtain ⟨z1, z2, z3⟩ := g3 z hz
            exact ⟨⟨by omega, by rw [List.length_set]; omega⟩, z3⟩
          · intro b hb'
            have := g4 b hb'
            have := (g1.lt hb').2
            exact ⟨by omega, by rw [List.length_set]; omega⟩
        · rw [kw, if_pos rfl] at e5 g5
          rw [show (keyT (y6 P k3) == [97, 110, 100]) = true from kw] at q5
          simp only [z7, zr, yl, zb, zu, z8, zn, ye, zc, zp, yr, zo, zf, ze, zd, List.set_cons_succ, List.set_cons_zero, O_mv, yw, xf, yg, O_un, yf, List.map_cons, List.map_nil, zz, zk, x7, y8, ww, wd, yc, yd, xb, xi, yz, Nat.lt_add_one, vp, List.length_cons, List.length_nil, Nat.reduceAdd, Nat.zero_add, Bool.not_true, zm, yb, zx, za, zi, vq, slc, qv, y0, xc, z6, xg, y7, zl, xd, x5, fq, qg, zq, zj, List.append_nil, Nat.add_zero, Option.map_some, List.getElem?_cons_zero, List.getElem?_cons_succ, wk, Option.map_some, wo, r1, wr1, wr2, r3, r4, wr3, rd1, rd2, zjq, List.length_set, r7, wr4, ok_0 r9, r9.r0, q5]
          have hk3l := zm1 (by simp [wAnd]) kw
          have l5 := m5'.le
          refine ⟨P.L.length - (k3 + 1) + 1, by omega, J5, k3 + 1, by omega, junk rfl, .slice a' n' c', _, S', acc ++ [g], rfl, e5, m5'.keep _ _ r11 (by omega) (by omega), m5'.keep _ _ r12 (by omega) (by omega), g1.keep fun c hc o ho => m5'.keep c o ho (by have := g4 c hc; omega) (by have := g4 c hc; omega), g2.keep fun c o hc ho => m5'.keep c o ho (by have := (g3 c hc).1; omega) (by have := (g3 c hc).1; omega), ?_, g4, r10.trans m5', by simp; omega, g5⟩
          intro z hz
          obtain ⟨z1, z2, z3⟩ := g3 z hz
          exact ⟨z1, by omega, z3⟩
    · have L0 := zpz (h := h) true (K2.set (h.length + 1) (.cells [str wRec, .slice none 0 0, nilP, str []] 0 false)) (i + 1 + 1) (e.upd e2 (by omega) _) ((mK1.trans m2').upd (by omega) _) (by rw [List.getElem?_set_ne (by omega)]; exact zK2) (by rw [List.getElem?_set_self hlK2]; rfl) hRk
      simp only [xu, z7, zr, zb, zw, z8, zn, zc, zp, zo, zf, ze, zd, List.set_cons_succ, List.set_cons_zero, O_mv, yg, yf, List.map_cons, List.map_nil, zz, zk, ww, wd, yc, yd, xb, xi, yz, Nat.lt_add_one, List.cons_append, List.nil_append, List.length_cons, List.length_nil, Nat.reduceSub, Nat.zero_add, zm, yb, zx, za, slc, y0, xc, z6, zl, xd, zq, zj, zh, zg, List.append_assoc, List.length_append, List.append_nil, Nat.add_zero, List.getElem?_cons_zero, yi, wk, wo, ← hz, e0.r0, q1, w1, eK1.r0, q2, w2]
      refine zi6 (LetI P h R true i) ?_ (P.L.length - (i + 1 + 1) + 1) _ ⟨_, i + 1 + 1, by omega, junk rfl, L0⟩
      rintro m st ⟨K, k, hik, ⟨j, rfl⟩, s, vs, S, acc, rfl, eK, hz0, hz1, own, gs, hS, hb, mK, hacc, hg⟩
      obtain ⟨w, p, J1, J2, J3, b, a', n', c', J4, k3, x, a, r1, r2, r3, r4, r5, r6, r7, r8, r9, r10, r11, r12, r13⟩ := zps e eK hz0 hz1 own gs hS hb mK hacc hg
      have lK := mK.le
      have lz := (List.getElem?_eq_some_iff.1 hz1).1
      have lJ1 := (List.getElem?_eq_some_iff.1 r2).1
      have lJ3 := (List.getElem?_eq_some_iff.1 r5).1
      have wr1 : Heap.write1 J1 ⟨K.length, 0, some 0⟩ (str w) = some (J1.set K.length (.cells [str w, .int .i64 0, nilP] 0 false)) := by rw [ph r2 (by simp)]; rfl
      have wr2 : Heap.write1 (J1.set K.length (.cells [str w, .int .i64 0, nilP] 0 false)) ⟨K.length, 1, some 0⟩ (.int .i64 p) = some (J1.set K.length (.cells [str w, .int .i64 p, nilP] 0 false)) := by rw [zhk lJ1 (by simp)]; rfl
      have wr3 : Heap.write1 J3 ⟨K.length, 2, some 0⟩ (pt b) = some (J3.set K.length (.cells [str w, .int .i64 p, pt b] 0 false)) := by rw [ph r5 (by simp)]; rfl
      have rd1 : Heap.read1 (J3.set K.length (.cells [str w, .int .i64 p, pt b] 0 false)) ⟨h.length + 1, 1, some 0⟩ = some s := by rw [yb4 (by simp; omega), we r6]; rfl
      have rd2 : Heap.read (J3.set K.length (.cells [str w, .int .i64 p, pt b] 0 false)) ⟨K.length, 0, some 0⟩ 3 = some [str w, .int .i64 p, pt b] := f5 lJ3 (by simp)
      obtain ⟨E, hE⟩ : ∃ E, E = J4.set (h.length + 1) (.cells [str (kwOf true), .slice a' n' c', nilP, str []] 0 false) := ⟨_, rfl⟩
      have wr4 : Heap.write1 J4 ⟨h.length + 1, 1, some 0⟩ (.slice a' n' c') = some E := by rw [ph r8 (by simp), hE]; rfl
      rw [← hE] at r9 r10 r11 r12 r13
      have row4 : ([str (kwOf true), .slice a' n' c', nilP, str []] : List Value).length = 4 := by simp
      rcases r13 with ⟨hx, hRb⟩ | ⟨rfl, rfl, hk3, S', g, g1, g2, g3, g4, g5⟩
      · have rd3 : Heap.read E ⟨h.length + 1, 0, some 0⟩ 4 = some [str (kwOf true), .slice a' n' c', nilP, str []] := zj8 r12 (by simp)
        have wr5 : Heap.write E ⟨h.length, 0, some 0⟩ [str (kwOf true), .slice a' n' c', nilP, str []] = some (E.set h.length (.cells [str (kwOf true), .slice a' n' c', nilP, str []] 0 false)) := zdi r11 (by simp [z4])
        have rd4 : Heap.read (E.set h.length (.cells [str (kwOf true), .slice a' n' c', nilP, str []] 0 false)) ⟨h.length, 0, some 0⟩ 4 = some [str (kwOf true), .slice a' n' c', nilP, str []] := f5 (List.getElem?_eq_some_iff.1 r11).1 (by simp)
        simp only [z7, zr, xe, zb, zw, z8, zn, ye, zc, zp, wi, zo, zf, ze, zd, List.set_cons_succ, List.set_cons_zero, O_mv, yw, xf, yg, O_un, yf, List.map_cons, List.map_nil, zz, zk, x7, y8, ww, wd, yc, yd, xb, xi, vp, List.length_cons, List.length_nil, Nat.reduceAdd, Nat.zero_add, Bool.not_false, zm, yb, zx, za, y5, xx, zch, slc, qv, y0, xc, z6, xg, y7, zl, xd, x5, fq, qg, y4, ya, List.append_nil, Nat.add_zero, Option.map_some, List.getElem?_cons_zero, List.getElem?_cons_succ, eq_self, wk, Option.map_some, zav, jo, ko, r1, wr1, wr2, r3, r4, wr3, rd1, rd2, zjq, List.length_set, r7, wr4, fh r9 hx, rd3, wr5, rd4]
        have st := zy7 e r9 r10 r12 hx hRb
        rw [e.finS (e.upd r9 (Nat.le_refl _) _) (r10.upd (Nat.le_refl _) _) _ (.inr hx)]
        exact st
      · obtain ⟨J5, q5, e5, m5⟩ := zh6 (r9.more [.cells [str wAnd] 0 false]) (m := wAnd) (by simp [wAnd]) (zlb E wAnd)
        have m5' : Mv P E J5 := (Mv.add P E _).trans m5
        simp only [wAnd] at q5
        cases kw : (keyT (y6 P k3) == wAnd)
        · rw [kw, if_neg Bool.false_ne_true] at e5 g5
          rw [show (keyT (y6 P k3) == [97, 110, 100]) = false from kw] at q5
          have t11 := m5'.keep _ _ r11 (by omega) (by omega)
          have t12 := m5'.keep _ _ r12 (by omega) (by omega)
          have rd3 : Heap.read J5 ⟨h.length + 1, 0, some 0⟩ 4 = some [str (kwOf true), .slice a' n' c', nilP, str []] := zj8 t12 (by simp)
          have wr5 : Heap.write J5 ⟨h.length, 0, some 0⟩ [str (kwOf true), .slice a' n' c', nilP, str []] = some (J5.set h.length (.cells [str (kwOf true), .slice a' n' c', nilP, str []] 0 false)) := zdi t11 (by simp [z4])
          have rd4 : Heap.read (J5.set h.length (.cells [str (kwOf true), .slice a' n' c', nilP, str []] 0 false)) ⟨h.length, 0, some 0⟩ 4 = some [str (kwOf true), .slice a' n' c', nilP, str []] := f5 (List.getElem?_eq_some_iff.1 t11).1 (by simp)
          simp only [z7, zr, xe, zb, zw, z8, zn, ye, zc, zp, yr, zo, zf, ze, zd, List.set_cons_succ, List.set_cons_zero, O_mv, yw, xf, yg, O_un, yf, List.map_cons, List.map_nil, zz, zk, x7, y8, ww, wd, yc, yd, xb, xi, yz, Nat.lt_add_one, vp, List.length_cons, List.length_nil, Nat.reduceAdd, Nat.zero_add, Bool.not_true, Bool.not_false, zm, yb, zx, za, y5, xx, zch, slc, qv, y0, xc, z6, xg, y7, zl, xd, x5, fq, qg, y4, ya, zq, zj, List.append_nil, Nat.add_zero, Option.map_some, List.getElem?_cons_zero, List.getElem?_cons_succ, eq_self, wk, Option.map_some, wo, zav, jo, ko, r1, wr1, wr2, r3, r4, wr3, rd1, rd2, zjq, List.length_set, r7, wr4, ok_0 r9, r9.r0, q5, rd3, wr5, rd4]
          rw [e.finS (e.upd e5 (Nat.le_refl _) _) ((r10.trans m5').upd (Nat.le_refl _) _) _ (.inl (by omega)), g5]
          have l5 := m5'.le
          refine ⟨_, k3, rfl, rfl, e.upd e5 (Nat.le_refl _) _, ⟨.slice a' n' c', vs ++ [pt b], S', rfl, ?_, ?_, ?_, ?_⟩, (r10.trans m5').upd (Nat.le_refl _) _⟩
          · exact (g1.sl.keep fun c hc o ho => by
              have := g4 c hc
              rw [List.getElem?_set_ne (by omega)]
              exact m5'.keep c o ho (by omega) (by omega))
          · exact g2.keep fun c o hc ho => by
              have := (g3 c hc).1
              rw [List.getElem?_set_ne (by omega)]
              exact m5'.keep c o ho (by omega) (by omega)
          · intro z hz
            obtain ⟨z1, z2, z3⟩ := g3 z hz
            exact ⟨⟨by omega, by rw [List.length_set]; omega⟩, z3⟩
          · intro b hb'
            have := g4 b hb'
            have := (g1.lt hb').2
            exact ⟨by omega, by rw [List.length_set]; omega⟩
        · rw [kw, if_pos rfl] at e5 g5
          rw [show (keyT (y6 P k3) == [97, 110, 100]) = true from kw] at q5
          simp only [z7, zr, yl, zb, zu, z8, zn, ye, zc, zp, yr, zo, zf, ze, zd, List.set_cons_succ, List.set_cons_zero, O_mv, yw, xf, yg, O_un, yf, List.map_cons, List.map_nil, zz, zk, x7, y8, ww, wd, yc, yd, xb, xi, yz, Nat.lt_add_one, vp, List.length_cons, List.length_nil, Nat.reduceAdd, Nat.zero_add, Bool.not_true, zm, yb, zx, za, zi, vq, slc, qv, y0, xc, z6, xg, y7, zl, xd, x5, fq, qg, zq, zj, List.append_nil, Nat.add_zero, Option.map_some, List.getElem?_cons_zero, List.getElem?_cons_succ, wk, Option.map_some, wo, r1, wr1, wr2, r3, r4, wr3, rd1, rd2, zjq, List.length_set, r7, wr4, ok_0 r9, r9.r0, q5]
          have hk3l := zm1 (by simp [wAnd]) kw
          have l5 := m5'.le
          refine ⟨P.L.length - (k3 + 1) + 1, by omega, J5, k3 + 1, by omega, junk rfl, .slice a' n' c', _, S', acc ++ [g], rfl, e5, m5'.keep _ _ r11 (by omega) (by omega), m5'.keep _ _ r12 (by omega) (by omega), g1.keep fun c hc o ho => m5'.keep c o ho (by have := g4 c hc; omega) (by have := g4 c hc; omega), g2.keep fun c o hc ho => m5'.keep c o ho (by have := (g3 c hc).1; omega) (by have := (g3 c hc).1; omega), ?_, g4, r10.trans m5', by simp; omega, g5⟩
          intro z hz
          obtain ⟨z1, z2, z3⟩ := g3 z hz
          exact ⟨z1, by omega, z3⟩
section
variable {call : qd} (ρ : Operand → Value) (h : Heap)
def zo9 (h : Heap) (kk : EqK) (z : Value) (ok : Bool) (m k : Value) : Option (Value × Heap) :=
  match (if zdx kk k then zkk h kk k m else none) with
  | some (some v) => some (if ok then tup [v, .bool true] else v, h)
  | some none => some (if ok then tup [z, .bool false] else z, h)
  | none => none
theorem fc (kk : EqK) (z : Value) (m k : Operand) (ok : Bool) : evOp call ρ h (.lookup kk z m k ok) = zo9 h kk z ok (ρ m) (ρ k) := rfl
def updO (h : Heap) (kk : EqK) : Value → Value → Value → Option (Value × Heap)
  | .map (some b), k, v => match h[b]? with
    | some (.map es) => if zdx kk k then (px kk k v es).map fun es' => (undef, h.set b (.map es')) else none
    | _ => none
  | _, _, _ => none
theorem fy (kk : EqK) (m k v : Operand) : evOp call ρ h (.update kk m k v) = updO h kk (ρ m) (ρ k) (ρ v) := by
  simp only [evOp]; generalize ρ m = x
  cases x <;> try rfl
  rename_i b
  cases b <;> rfl
theorem ze6 : evOp call ρ h .mkMap = some (.map (some h.length), h ++ [.map []]) := rfl
theorem ybp (z : Value) (ok : Bool) (w : Bys) : zo9 h .str z ok (.map none) (str w) = some (if ok then tup [z, .bool false] else z, h) := rfl
def zi7 (z : Value) (ok : Bool) : Option Value → Value
  | some v => if ok then tup [v, .bool true] else v
  | none => if ok then tup [z, .bool false] else z
theorem zhw {b : Nat} {es : List (Value × Value)} (e : h[b]? = some (.map es)) (z : Value) (ok : Bool) {w : Bys} {r : Option Value} (hf : findKey .str (str w) es = some r) : zo9 h .str z ok (.map (some b)) (str w) = some (zi7 z ok r, h) := by
  have hk : zdx .str (str w) = true := rfl
  simp only [zo9, hk, if_true, zkk, e, hf]
  cases r <;> rfl
theorem znj {b : Nat} {es es' : List (Value × Value)} (e : h[b]? = some (.map es)) {w : Bys} {v : Value} (hs : px .str (str w) v es = some es') : updO h .str (.map (some b)) (str w) v = some (undef, h.set b (.map es')) := by
  have hk : zdx .str (str w) = true := rfl
  simp only [updO, e, hk, if_true, hs, Option.map_some]
end
theorem zox {α : Type} (f : α → Value) (w : Bys) : ∀ l : List (Bys × α), findKey .str (str w) (l.map fun p => (str p.1, f p.2)) = some ((l.find? fun p => w == p.1).map fun p => f p.2)
  | [] => rfl
  | (k, a) :: l => by
    rw [List.map_cons, findKey, zno, List.find?_cons]
    simp only
    cases (w == k)
    · exact zox f w l
    · rfl
theorem zrx {α : Type} (f : α → Value) (w : Bys) (a : α) : ∀ l : List (Bys × α), (l.find? fun p => w == p.1) = none → px .str (str w) (f a) (l.map fun p => (str p.1, f p.2)) = some ((l ++ [(w, a)]).map fun p => (str p.1, f p.2))
  | [], h => rfl
  | (k, b) :: l, h => by
    rw [List.find?_cons] at h
    rw [List.map_cons, px, zno]
    cases hk : (w == k)
    · rw [hk] at h
      simp only at h ⊢
      rw [zrx f w a l h]; rfl
    · rw [hk] at h; cases h
theorem zgo (kn : Kn) (w : Bys) : ji kn w = (kn.find? fun p => w == p.1).map (·.2) := by
  induction kn with
  | nil => rfl
  | cons p r ih =>
    obtain ⟨v, s⟩ := p
    rw [ji, List.find?_cons]
    simp only
    cases hk : (w == v)
    · simp only [Bool.false_eq_true, if_false]; exact ih
    · simp
theorem yds : (([110, 97, 109, 101] : Bys) == [92]) = false := rfl
theorem ydx : (([124] : Bys) == [110, 97, 109, 101]) = false := rfl
theorem zy4 : (([124] : Bys) == [92]) = false := rfl
theorem ygf : (([124] : Bys) == [40]) = false := rfl
theorem yd9 : (([38] : Bys) == [110, 97, 109, 101]) = false := rfl
theorem yd5 : (([38] : Bys) == [124]) = false := rfl
theorem zxx : (([38] : Bys) == [92]) = false := rfl
theorem yf6 : (([38] : Bys) == [40]) = false := rfl
theorem ydd : (([92] : Bys) == [110, 97, 109, 101]) = false := rfl
theorem ydg : (([92] : Bys) == [124]) = false := rfl
theorem ydt : (([92] : Bys) == [38]) = false := rfl
theorem ygp : (([92] : Bys) == [40]) = false := rfl
theorem yd4 : (([59] : Bys) == [110, 97, 109, 101]) = false := rfl
theorem yd1 : (([59] : Bys) == [124]) = false := rfl
theorem ydj : (([59] : Bys) == [38]) = false := rfl
theorem zub : (([59] : Bys) == [92]) = false := rfl
theorem yg1 : (([59] : Bys) == [40]) = false := rfl
theorem yde : (([120] : Bys) == [110, 97, 109, 101]) = false := rfl
theorem ydn : (([120] : Bys) == [124]) = false := rfl
theorem ydf : (([120] : Bys) == [38]) = false := rfl
theorem zt1 : (([120] : Bys) == [92]) = false := rfl
theorem ydr : (([120] : Bys) == [59]) = false := rfl
theorem ygb : (([120] : Bys) == [40]) = false := rfl
theorem zro : (([91] : Bys) == [110, 97, 109, 101]) = false := rfl
theorem zp2 : (([91] : Bys) == [124]) = false := rfl
theorem zq0 : (([91] : Bys) == [38]) = false := rfl
theorem znr : (([91] : Bys) == [92]) = false := rfl
theorem zp9 : (([91] : Bys) == [59]) = false := rfl
theorem zq9 : (([91] : Bys) == [120]) = false := rfl
theorem yf5 : (([91] : Bys) == [40]) = false := rfl
theorem yag : (([40] : Bys) == [110, 97, 109, 101]) = false := rfl
theorem yd3 : (([40] : Bys) == [124]) = false := rfl
theorem ydc : (([40] : Bys) == [38]) = false := rfl
theorem zzn : (([40] : Bys) == [92]) = false := rfl
theorem ydb : (([40] : Bys) == [59]) = false := rfl
theorem yea : (([40] : Bys) == [120]) = false := rfl
theorem ydh : (([40] : Bys) == [91]) = false := rfl
theorem zw1 : (([43] : Bys) == [110, 97, 109, 101]) = false := rfl
theorem yae : (([43] : Bys) == [124]) = false := rfl
theorem zzz : (([43] : Bys) == [38]) = false := rfl
theorem zu5 : (([43] : Bys) == [92]) = false := rfl
theorem zyt : (([43] : Bys) == [59]) = false := rfl
theorem zx9 : (([43] : Bys) == [120]) = false := rfl
theorem zy3 : (([43] : Bys) == [91]) = false := rfl
theorem zxp : (([43] : Bys) == [40]) = false := rfl
theorem zzr : (([42] : Bys) == [110, 97, 109, 101]) = false := rfl
theorem zyl : (([42] : Bys) == [124]) = false := rfl
theorem yar : (([42] : Bys) == [38]) = false := rfl
theorem zu1 : (([42] : Bys) == [92]) = false := rfl
theorem zzk : (([42] : Bys) == [59]) = false := rfl
theorem zz7 : (([42] : Bys) == [120]) = false := rfl
theorem yau : (([42] : Bys) == [91]) = false := rfl
theorem zyp : (([42] : Bys) == [40]) = false := rfl
theorem zzo : (([42] : Bys) == [43]) = false := rfl
theorem zsy : (([63] : Bys) == [110, 97, 109, 101]) = false := rfl
theorem ztg : (([63] : Bys) == [124]) = false := rfl
theorem zr9 : (([63] : Bys) == [38]) = false := rfl
theorem zod : (([63] : Bys) == [92]) = false := rfl
theorem zrz : (([63] : Bys) == [59]) = false := rfl
theorem zsa : (([63] : Bys) == [120]) = false := rfl
theorem zsq : (([63] : Bys) == [91]) = false := rfl
theorem zsh : (([63] : Bys) == [40]) = false := rfl
theorem zsd : (([63] : Bys) == [43]) = false := rfl
theorem zsr : (([63] : Bys) == [42]) = false := rfl
theorem zsf : (([94] : Bys) == [110, 97, 109, 101]) = false := rfl
theorem zs7 : (([94] : Bys) == [124]) = false := rfl
theorem zsg : (([94] : Bys) == [38]) = false := rfl
theorem zok : (([94] : Bys) == [92]) = false := rfl
theorem ztx : (([94] : Bys) == [59]) = false := rfl
theorem zrs : (([94] : Bys) == [120]) = false := rfl
theorem zr0 : (([94] : Bys) == [91]) = false := rfl
theorem zrw : (([94] : Bys) == [40]) = false := rfl
theorem zrt : (([94] : Bys) == [43]) = false := rfl
theorem zs1 : (([94] : Bys) == [42]) = false := rfl
theorem zob : (([94] : Bys) == [63]) = false := rfl
theorem zrr : (([48] : Bys) == [110, 97, 109, 101]) = false := rfl
theorem zr3 : (([48] : Bys) == [124]) = false := rfl
theorem zr8 : (([48] : Bys) == [38]) = false := rfl
theorem zru : (([48] : Bys) == [92]) = false := rfl
theorem ztt : (([48] : Bys) == [59]) = false := rfl
theorem ztl : (([48] : Bys) == [120]) = false := rfl
theorem zs3 : (([48] : Bys) == [91]) = false := rfl
theorem zsc : (([48] : Bys) == [40]) = false := rfl
theorem zsk : (([48] : Bys) == [43]) = false := rfl
theorem ztb : (([48] : Bys) == [42]) = false := rfl
theorem zo0 : (([48] : Bys) == [63]) = false := rfl
theorem zpf : (([48] : Bys) == [94]) = false := rfl
def knE (kn : Kn) : List (Value × Value) := kn.map fun p => (str p.1, .bool p.2)
def rcE (rc : List Bys) : List (Value × Value) := (rc.map fun w => (w, ())).map fun p => (str p.1, .bool true)
theorem ztj (kn : Kn) (w : Bys) : findKey .str (str w) (knE kn) = some ((ji kn w).map Value.bool) := by
  rw [knE, zox (fun b => Value.bool b), zgo, Option.map_map]; rfl
theorem zn9 (w : Bys) : ∀ rc : List Bys, ((rc.map fun w => (w, ())).find? fun p => w == p.1) = if rc.contains w then some (w, ()) else none
  | [] => rfl
  | v :: r => by
    rw [List.map_cons, List.find?_cons, List.contains_cons]
    cases hv : (w == v)
    · simp only [Bool.false_or]; exact zn9 w r
    · rw [← eq_of_beq hv]; simp
theorem zx3 (rc : List Bys) (w : Bys) : findKey .str (str w) (rcE rc) = some (if rc.contains w then some (.bool true) else none) := by
  rw [rcE, zox (fun _ => Value.bool true), zn9]
  cases rc.contains w <;> rfl
structure Ch (P : RP) (h : Heap) (q km : Nat) (rm : Value) (n : Nat) (kn : Kn) (rc : List Bys) : Prop where
  cq : h[q]? = some (.cells [pt P.r, .map (some km), rm, .int .i64 (n : Int)] 0 false)
  ck : h[km]? = some (.map (knE kn))
  cr : (rm = .map none ∧ rc = []) ∨ ∃ b, rm = .map (some b) ∧ h[b]? = some (.map (rcE rc))
structure Kp (P : RP) (S : Nat → Prop) (h h' : Heap) : Prop where
  keep : ∀ (b : Nat) (o : AObj), h[b]? = some o → ¬ S b → b ≠ P.r → h'[b]? = some o
  le : h.length ≤ h'.length
theorem Kp.refl (P : RP) (S : Nat → Prop) (h : Heap) : Kp P S h h := ⟨fun _ _ e _ _ => e, Nat.le_refl _⟩
theorem Kp.trans {P : RP} {S S' : Nat → Prop} {h h' h'' : Heap} (a : Kp P S h h') (b : Kp P S' h' h'') : Kp P (fun z => S z ∨ S' z) h h'' :=
  ⟨fun x o e n1 n2 => b.keep x o (a.keep x o e (fun hh => n1 (.inl hh)) n2) (fun hh => n1 (.inr hh)) n2, Nat.le_trans a.le b.le⟩
theorem Kp.weak {P : RP} {S S' : Nat → Prop} {h h' : Heap} (a : Kp P S h h') (hs : ∀ z, S z → S' z) : Kp P S' h h' := ⟨fun b o e n1 n2 => a.keep b o e (fun hh => n1 (hs b hh)) n2, a.le⟩
theorem Kp.add (P : RP) (S : Nat → Prop) (h L : Heap) : Kp P S h (h ++ L) := ⟨fun b o e _ _ => xa L e, by simp⟩
theorem Mv.kp {P : RP} {h h' : Heap} (m : Mv P h h') (hc : ∀ o, h[P.c]? = some o → h'[P.c]? = some o) : Kp P (fun _ => False) h h' := ⟨fun b o e _ n2 => by
  by_cases hb : b = P.c
  · subst hb; exact hc o e
  · exact m.keep b o e n2 hb, m.le⟩
structure Cl (P : RP) (hb : Heap) (q km : Nat) (rm : Value) (S : Nat → Prop) : Prop where
  lo : ∀ z, S z → hb.length ≤ z
  q : ¬ S q
  k : ¬ S km
  r : ∀ b, rm = .map (some b) → ¬ S b
theorem Cl.weak {P : RP} {hb : Heap} {q km : Nat} {rm : Value} {S S' : Nat → Prop} (c : Cl P hb q km rm S) (hs : ∀ z, S' z → S z) : Cl P hb q km rm S' :=
  ⟨fun z hz => c.lo z (hs z hz), fun h => c.q (hs _ h), fun h => c.k (hs _ h), fun b hb h => c.r b hb (hs _ h)⟩
theorem Ch.kp {P : RP} {h h' : Heap} {q km n i d x a : Nat} {rm : Value} {kn : Kn} {rc : List Bys} {S : Nat → Prop} (c : Ch P h q km rm n kn rc) (e : Rd P h i d x a) (k : Kp P S h h') (hq : ¬ S q) (hk : ¬ S km) (hr : ∀ b, rm = .map (some b) → ¬ S b) : Ch P h' q km rm n kn rc := by
  have n1 : q ≠ P.r := by
    rintro rfl
    have := e.hr.symm.trans c.cq
    simp at this
  have n2 : km ≠ P.r := by
    rintro rfl
    have := e.hr.symm.trans c.ck
    simp at this
  refine ⟨k.keep _ _ c.cq hq n1, k.keep _ _ c.ck hk n2, ?_⟩
  rcases c.cr with h1 | ⟨b, h1, h2⟩
  · exact .inl h1
  · refine .inr ⟨b, h1, k.keep _ _ h2 (hr b h1) ?_⟩
    rintro rfl
    have := e.hr.symm.trans h2
    simp at this
section
variable {P : RP} {h : Heap} {i d x a q bb : Nat} {km rm nn : Value}
theorem po : qw .ptr (.pointer none) (.pointer none) = some true := rfl
theorem xo (p : Addr) : qw .ptr (.pointer (some p)) (.pointer none) = some false := rfl
set_option maxRecDepth 10000 in
theorem zgd (e : Rd P h i d x a) (rt : Bool) : DF FF xn [pt q, nilP, .bool rt] h = some (tup [], h) := by
  have : ∃ v h', DF FF xn [pt q, nilP, .bool rt] h = some (v, h') ∧ (v = tup [] ∧ h' = h) := by
    refine wz qb ?_
    simp only [y3, z7, zr, xe, zb, zw, z8, zn, ye, zc, wi, zo, zf, ze, zd, List.set_cons_succ, List.set_cons_zero, O_mv, yw, xf, List.cons_append, List.nil_append, List.length_cons, List.length_nil, Nat.reduceAdd, Nat.reduceSub, Nat.zero_add, zm, yb, za, y5, w8, zh, zg, Bool.bne_false, jq, eq_self, zt, yi, laid, po, xq, zt, zey, ygi]
    exact ⟨trivial, trivial⟩
  obtain ⟨v, h', r, rfl, rfl⟩ := this
  exact r
set_option maxRecDepth 10000 in
theorem zuw (e : Rd P h i d x a) (hx : x ≠ 0) (hq : h[q]? = some (.cells [pt P.r, km, rm, nn] 0 false)) (b : Nat) (rt : Bool) : DF FF xn [pt q, pt b, .bool rt] h = some (tup [], h) := by
  have : ∃ v h', DF FF xn [pt q, pt b, .bool rt] h = some (v, h') ∧ (v = tup [] ∧ h' = h) := by
    refine wz qb ?_
    have rq : ∀ L j, Heap.read1 (h ++ L) ⟨q, j, some 0⟩ = ([pt P.r, km, rm, nn] : List Value)[j]? := fun L j => we (xa L hq)
    simp only [y3, z7, zr, xe, zb, zw, z8, zn, ye, zc, yr, zo, zf, ze, zd, List.set_cons_succ, List.set_cons_zero, O_mv, yw, xf, yg, O_un, yf, List.map_cons, List.map_nil, zz, zk, vp, List.cons_append, List.nil_append, List.length_cons, List.length_nil, Nat.reduceAdd, Nat.reduceSub, Nat.zero_add, Bool.not_false, zm, yb, za, y5, w8, xc, z6, zq, zj, yy, yq, zh, zg, Nat.add_zero, List.getElem?_cons_zero, Bool.bne_false, jq, eq_self, zt, yi, laid, xo, xq, zt, rq, fh (e.more _) hx, zey, ygi]
    exact ⟨trivial, trivial⟩
  obtain ⟨v, h', r, rfl, rfl⟩ := this
  exact r
theorem zo3 {b : Nat} {op w : Bys} {p : Nat} {l r : Value} {s : Bool} (hb : h[b]? = some (.cells (vd op w p l r s) 0 false)) : DF FF wj [pt b, .bool s, pt bb] h = some (tup [], h) := by
  have : ∃ v h', DF FF wj [pt b, .bool s, pt bb] h = some (v, h') ∧ (v = tup [] ∧ h' = h) := by
    refine wz bz ?_
    have rb : Heap.read1 h ⟨b, 5, some 0⟩ = some (.bool s) := we hb
    simp only [g7, z7, zr, yl, zb, zu, z8, zn, zc, zo, ze, zd, List.set_cons_succ, List.set_cons_zero, O_mv, yg, zz, zk, List.cons_append, List.nil_append, List.length_cons, List.length_nil, Nat.reduceAdd, Nat.reduceSub, Nat.zero_add, zm, yb, za, xc, z6, zq, zj, zh, zg, wt, beq_self_eq_true, jq, zik, eq_self, rb, bne_self_eq_false, wn, wt]
    exact ⟨trivial, trivial⟩
  obtain ⟨v, h', r, rfl, rfl⟩ := this
  exact r
theorem zo1 (e : Rd P h i d 0 a) (hq : h[q]? = some (.cells [pt P.r, km, rm, nn] 0 false)) (hbb : h[bb]? = some (.cells [pt q] 0 false)) {b : Nat} {op w : Bys} {p : Nat} {l r : Value} {s t : Bool} (hb : h[b]? = some (.cells (vd op w p l r s) 0 false)) (hst : (s == t) = false) :
    ∃ h', DF FF wj [pt b, .bool t, pt bb] h = some (tup [], h') ∧ Rd P h' i d 41 p ∧ Mv P h h' ∧ h'[P.c]? = h[P.c]? := by
  have : ∃ v h', DF FF wj [pt b, .bool t, pt bb] h = some (v, h') ∧ (v = tup [] ∧ Rd P h' i d 41 p ∧ Mv P h h' ∧ h'[P.c]? = h[P.c]?) := by
    refine wz bz ?_
    have rb : ∀ j, Heap.read1 h ⟨b, j, some 0⟩ = (vd op w p l r s)[j]? := fun j => we hb
    have rq : ∀ j, Heap.read1 h ⟨q, j, some 0⟩ = ([pt P.r, km, rm, nn] : List Value)[j]? := fun j => we hq
    have rbb : Heap.read1 h ⟨bb, 0, some 0⟩ = some (pt q) := we hbb
    have n5 : (vd op w p l r s)[5]? = some (.bool s) := rfl
    obtain ⟨h', f, e', m⟩ := zjx e 41 p (by omega)
    simp only [Int.cast_ofNat_Int] at f
    simp only [g7, z7, zr, zb, zw, z8, zn, zc, zo, zf, ze, zd, List.set_cons_succ, List.set_cons_zero, O_mv, yg, yf, List.map_cons, List.map_nil, zz, zk, List.cons_append, List.nil_append, List.length_cons, List.length_nil, Nat.reduceAdd, Nat.reduceSub, Nat.zero_add, Bool.not_false, zm, yb, za, xc, z6, zq, zj, zh, zg, Nat.add_zero, List.getElem?_cons_zero, Bool.bne_true, jq, zik, eq_self, rb, n5, f7, hst, rq, rbb, f, wn]
    rw [e.fin e' m (tup []) (.inr (.inr (.inl (by omega))))]
    exact ⟨trivial, e', m, by rw [e'.hc, e.hc]⟩
  obtain ⟨v, h', r, rfl, e', m, hc⟩ := this
  exact ⟨h', r, e', m, hc⟩
theorem yej (e : Rd P h i d x a) (hx : x ≠ 0) (hq : h[q]? = some (.cells [pt P.r, km, rm, nn] 0 false)) (hbb : h[bb]? = some (.cells [pt q] 0 false)) {b : Nat} {op w : Bys} {p : Nat} {l r : Value} {s : Bool} (t : Bool) (hb : h[b]? = some (.cells (vd op w p l r s) 0 false)) :
    DF FF wj [pt b, .bool t, pt bb] h = some (tup [], h) := by
  cases hst : (s == t)
  · have : ∃ v h', DF FF wj [pt b, .bool t, pt bb] h = some (v, h') ∧ (v = tup [] ∧ h' = h) := by
      refine wz bz ?_
      have rb : ∀ j, Heap.read1 h ⟨b, j, some 0⟩ = (vd op w p l r s)[j]? := fun j => we hb
      have rq : ∀ j, Heap.read1 h ⟨q, j, some 0⟩ = ([pt P.r, km, rm, nn] : List Value)[j]? := fun j => we hq
      have rbb : Heap.read1 h ⟨bb, 0, some 0⟩ = some (pt q) := we hbb
      have n5 : (vd op w p l r s)[5]? = some (.bool s) := rfl
      simp only [g7, z7, zr, zb, zw, z8, zn, zc, zo, zf, ze, zd, List.set_cons_succ, List.set_cons_zero, O_mv, yg, yf, List.map_cons, List.map_nil, zz, zk, List.cons_append, List.nil_append, List.length_cons, List.length_nil, Nat.reduceAdd, Nat.reduceSub, Nat.zero_add, Bool.not_false, zm, yb, za, xc, z6, zq, zj, zh, zg, Nat.add_zero, List.getElem?_cons_zero, wt, Bool.bne_true, jq, zik, eq_self, rb, n5, f7, hst, rq, rbb, zk5 e hx, wn, wt]
      exact ⟨trivial, trivial⟩
    obtain ⟨v, h', r, rfl, rfl⟩ := this
    exact r
  · rw [← eq_of_beq hst]; exact zo3 hb
end
theorem zn0 {e : Nat} : ∀ {k : Nat} {ts r : List Tok} {gs : List Gv}, fm e k ts = .ok gs r → r.length ≤ ts.length ∧ gs.length ≤ ts.length
  | 0, ts, r, gs, h => by rw [fm] at h; cases h; simp
  | k + 1, ts, r, gs, h => by
    rw [fm] at h
    cases hg : zg9 e ts with
    | bad c a => rw [hg] at h; cases h
    | ok g r1 =>
      have h1 := zeg hg
      rw [hg] at h
      cases r1 with
      | nil => cases h; simp at h1 ⊢; omega
      | cons t r1 =>
        simp only at h
        split at h
        · cases hr : fm e k r1 with
          | bad c a => rw [hr] at h; cases h
          | ok gs' r2 =>
            rw [hr] at h
            obtain ⟨a, b⟩ := zn0 hr
            simp only [List.length_cons] at h1
            cases h
            simp only [List.length_cons]; omega
        · cases h; simp only [List.length_cons, List.length_nil] at h1 ⊢; omega
theorem zl6 {e : Nat} {rc : Bool} {ts r : List Tok} {s : Stm} (h : zii e rc ts = .ok s r) : r.length ≤ ts.length ∧ ∀ rc' gs, s = .lets rc' gs → gs.length ≤ ts.length := by
  unfold zii at h
  split at h
  · cases h
  · rename_i gs r' hg
    cases h
    obtain ⟨a, b⟩ := zn0 hg
    exact ⟨a, fun rc' gs' hs => by cases hs; exact b⟩
theorem zjo {e : Nat} {k : Ck} {ts r : List Tok} {s : Stm} (h : zco e k ts = .ok s r) : r.length ≤ ts.length ∧ ∀ rc' gs, s ≠ .lets rc' gs := by
  unfold zco at h
  split at h
  · cases h
  · rename_i x hx
    cases h; exact ⟨by simp, fun _ _ => by simp⟩
  · rename_i x t r1 hx
    have h1 := zc6 _ _ _ _ _ hx
    simp only [List.length_cons] at h1
    split at h
    · split at h
      · cases h
      · rename_i w r2 hn
        cases h
        cases r1 with
        | nil => cases hn
        | cons t2 r2' =>
          rw [zfd] at hn
          split at hn
          · cases hn; exact ⟨by simp at h1 ⊢; omega, fun _ _ => by simp⟩
          · cases hn
    · cases h; exact ⟨by simp; omega, fun _ _ => by simp⟩
theorem zc0 {e : Nat} {t : Tok} {ts r : List Tok} {s : Stm} (h : ze1 e (t :: ts) = .ok s r) : r.length ≤ ts.length ∧ ∀ rc' gs, s = .lets rc' gs → gs.length ≤ ts.length := by
  rw [ze1] at h
  split at h
  · cases ts with
    | nil => exact zl6 (rc := false) h
    | cons t2 r2 =>
      rw [letP] at h
      split at h
      · obtain ⟨a, b⟩ := zl6 h
        exact ⟨by simp; omega, fun rc gs hs => by have := b rc gs hs; simp; omega⟩
      · exact zl6 h
  split at h
  · obtain ⟨a, b⟩ := zjo h; exact ⟨a, fun rc gs hs => absurd hs (b rc gs)⟩
  split at h
  · obtain ⟨a, b⟩ := zjo h; exact ⟨a, fun rc gs hs => absurd hs (b rc gs)⟩
  split at h
  · obtain ⟨a, b⟩ := zjo h; exact ⟨a, fun rc gs hs => absurd hs (b rc gs)⟩
  · cases h
theorem zla (e : Nat) : ∀ k k' ts, ts.length ≤ k → ts.length ≤ k' → kf e k ts = kf e k' ts
  | 0, k', ts, h, h' => by
    have : ts = [] := List.eq_nil_of_length_eq_zero (by omega)
    subst this
    cases k' <;> rfl
  | k + 1, 0, ts, h, h' => by
    have : ts = [] := List.eq_nil_of_length_eq_zero (by omega)
    subst this; rfl
  | k + 1, k' + 1, [], h, h' => rfl
  | k + 1, k' + 1, t :: ts, h, h' => by
    simp only [List.length_cons] at h h'
    rw [kf, kf]
    cases hs : ze1 e (t :: ts) with
    | bad c a => rfl
    | ok s r =>
      have := (zc0 hs).1
      simp only
      rw [zla e k k' r (by omega) (by omega)]
theorem ycn {P : RP} {k : Nat} (hk : k < P.L.length) : kf P.en P.L.length (P.L.drop k) = match ze1 P.en (P.L.drop k) with
    | .bad c a => .bad c a
    | .ok s r => match kf P.en P.L.length r with
      | .bad c a => .bad c a
      | .ok l r2 => .ok (s :: l) r2 := by
  obtain ⟨q, hq⟩ : ∃ q, P.L.length = q + 1 := ⟨P.L.length - 1, by omega⟩
  rw [gz hk]
  rw [show kf P.en P.L.length (y6 P k :: P.L.drop (k + 1)) = kf P.en (q + 1) (y6 P k :: P.L.drop (k + 1)) by rw [← hq], kf]
  cases hs : ze1 P.en (y6 P k :: P.L.drop (k + 1)) with
  | bad c a => rfl
  | ok s r =>
    have := (zc0 hs).1
    simp only [List.length_drop] at this
    simp only
    rw [zla P.en q P.L.length r (by omega) (by omega)]
    rfl
theorem zvt {s : List UInt8} {c : Nat} (h : zcv s = .bad c) : c ≠ 0 := by
  cases s with
  | nil => cases h; decide
  | cons b s =>
    rw [zcv] at h
    split at h
    · split at h
      · cases h
      · cases h; decide
    · split at h
      · cases h
      · split at h
        · cases h
        · split at h
          · cases h
          · cases h; decide
theorem ziz : ∀ {f : Nat} {s : List UInt8} {a c p : Nat}, zg0 f s a = .bad c p → c ≠ 0
  | 0, s, a, c, p, h => by cases h
  | f + 1, s, a, c, p, h => by
    rw [zg0] at h
    split at h
    · cases h
    · split at h
      · exact ziz h
      · cases h; decide
      · split at h
        · rename_i kd k n hw
          cases hq : zg0 f (s.drop k) (a + k) with
          | ok l => rw [hq] at h; cases h
          | bad c' p' => rw [hq] at h; cases h; exact ziz hq
        · rename_i c' hw
          cases h; exact zvt hw
theorem zvj {s : List UInt8} {a c p : Nat} (h : fi s a = .bad c p) : c ≠ 0 := ziz h
theorem ybm {s : List UInt8} {kd k a : Nat} {n : Int} (h : zcv s = .word kd k n) : zrm ⟨kd, s.take k, n, a⟩ := by
  have hp := zef h
  cases s with
  | nil => cases h
  | cons c s =>
    have ht : ∀ k, 1 ≤ k → (c :: s).take k = c :: s.take (k - 1) := fun k hk => by
      obtain ⟨m, rfl⟩ : ∃ m, k = m + 1 := ⟨k - 1, by omega⟩
      rfl
    rw [zcv] at h
    split at h
    · split at h
      · cases h; exact .inr (.inl rfl)
      · cases h
    · split at h
      · rename_i hl
        cases h
        exact .inl ⟨rfl, c, _, ht _ hp.1, hl⟩
      · split at h
        · rename_i hm
          cases h
          refine .inr (.inr ⟨rfl, c, _, ht _ hp.1, ?_⟩)
          rcases Bool.or_eq_true_iff.1 hm with hm | hm
          · have : c = 47 := by simp [List.isPrefixOf] at hm; exact hm.1.symm
            rw [this]; rfl
          · have : c = 92 := by simp [List.isPrefixOf] at hm; exact hm.1.symm
            rw [this]; rfl
        · split at h
          · rename_i hm
            cases h
            exact .inr (.inr ⟨rfl, c, _, ht _ hp.1, hm⟩)
          · cases h
theorem zom : ∀ {f : Nat} {s : List UInt8} {a : Nat} {l : List Tok}, zg0 f s a = .ok l → (∀ t ∈ l, zrm t) ∧ l.length ≤ f
  | 0, s, a, l, h => by cases h; simp
  | f + 1, s, a, l, h => by
    rw [zg0] at h
    split at h
    · cases h; simp
    · split at h
      · obtain ⟨x, y⟩ := zom h; exact ⟨x, by omega⟩
      · cases h
      · split at h
        · rename_i kd k n hw
          cases hq : zg0 f (s.drop k) (a + k) with
          | ok m =>
            rw [hq] at h
            obtain ⟨x, y⟩ := zom hq
            cases h
            refine ⟨fun t ht => ?_, by simp; omega⟩
            rcases List.mem_append.1 ht with ht | ht
            · simp at ht; subst ht; exact ybm hw
            · exact x t ht
          | bad c' p' => rw [hq] at h; cases h
        · cases h
theorem ya7 {s : List UInt8} {a : Nat} {l : List Tok} (h : fi s a = .ok l) : (∀ t ∈ l, zrm t) ∧ l.length ≤ s.length := zom h
theorem Pre.of {h H : Heap} (hl : h.length ≤ H.length) (hk : ∀ (b : Nat) (o : AObj), h[b]? = some o → H[b]? = some o) : Pre h H := by
  refine ⟨H.drop h.length, ?_⟩
  have : H.take h.length = h := by
    apply List.ext_getElem?
    intro b
    rw [List.getElem?_take]
    by_cases hb : b < h.length
    · rw [if_pos hb]
      have := hk b h[b] (List.getElem?_eq_getElem hb)
      rw [this, List.getElem?_eq_getElem hb]
    · rw [if_neg hb, List.getElem?_eq_none (by omega)]
  rw [← this, List.length_take, Nat.min_eq_left (by omega), List.take_append_drop]
def wq (d : Bys × Bool) : List Value := [str d.1, .bool d.2]
theorem zpu {h : Heap} {s : Value} {rows : List (List Value)} (e : Sl h s 4 rows) (hr : rows.length ≤ 1000000) : ∃ s' h', DF FF vv [s] h = some (s', h') ∧ Own h h' s' 4 rows ∧ Pre h h' := by
  have : ∃ s' h', DF FF vv [s] h = some (s', h') ∧ (Own h h' s' 4 rows ∧ Pre h h') := by
    refine wz zaq ?_
    rcases e with ⟨⟨rfl, rfl⟩ | ⟨b, o, v, rfl, hrd⟩, hc⟩
    · simp only [jj, z7, zr, xe, zb, zw, z8, zn, zc, zo, zf, ze, zd, List.set_cons_succ, List.set_cons_zero, O_mv, List.cons_append, List.nil_append, List.length_cons, List.length_nil, Nat.reduceSub, Nat.zero_add, zm, yb, za, y5, zh, zg, wt, xt, Bool.bne_false, jq, yi, nils, show qw .slice (.slice none 0 0) (.slice none 0 0) = some true from rfl, xq, xt, wt]
      exact ⟨Own.nil _ _ _, Pre.refl h⟩
    · have hl := bh rows 4 hc
      have hs : zc9 (h ++ [AObj.cells [] 0 false]) 4 (.slice (some ⟨b, o, some v⟩) rows.length 4) = some (rows.flatten, rows.length) := zoh _ (zh8 h _ hrd)
      have ha := zrb h (L := []) (size := 4) (bytes := 40) (m := 0) (n := rows.length) (ver := 0) (vals := []) (ys := rows.flatten) (by simp) (by unfold k8; omega)
      simp only [List.nil_append, Nat.zero_add] at ha
      simp only [jj, z7, zr, xe, yl, zb, zu, z8, zn, zc, zo, zf, ze, zd, List.set_cons_succ, List.set_cons_zero, O_mv, ww, wd, yc, xb, yz, List.cons_append, List.nil_append, List.length_cons, List.length_nil, Nat.reduceAdd, Nat.reduceSub, Nat.zero_add, zm, yb, za, slc, qv, zh, zg, xt, Bool.bne_false, jq, yi, show qw .slice (.slice (some ⟨b, o, some v⟩) rows.length 4) (.slice none 0 0) = some false from rfl, xq, hs, ha, xt]
      rw [zgq h rfl]
      exact ⟨⟨.inr ⟨h.length, 1, Nat.le_refl _, rfl, by simp⟩, hc⟩, Pre.more (Pre.refl h) _⟩
  obtain ⟨s', h', q, a, b⟩ := this
  exact ⟨s', h', q, a, b⟩
theorem yhd {h : Heap} {s : Value} {rows : List (List Value)} (e : Sl h s 4 rows) (hr : rows.length ≤ 1000000) : ∃ s' c h', DF FF zgi [s] h = some (pt c, h') ∧ h'[c]? = some (.cells [s', .int .i64 0] 0 false) ∧ Own h h' s' 4 rows ∧ blk s' ≠ some c ∧ h.length ≤ c ∧ Pre h h' := by
  have : ∃ v h', DF FF zgi [s] h = some (v, h') ∧ ∃ s' c, (v = pt c ∧ h'[c]? = some (.cells [s', .int .i64 0] 0 false) ∧ Own h h' s' 4 rows ∧ blk s' ≠ some c ∧ h.length ≤ c ∧ Pre h h') := by
    refine wz zwr ?_
    obtain ⟨s', h1, q, a, p⟩ := zpu e hr
    obtain ⟨x, y, z, rfl⟩ := a.slice
    simp only [zn5, z7, xe, zb, z8, zn, zc, zo, zf, ze, zd, List.set_cons_succ, List.set_cons_zero, O_mv, yf, List.map_cons, List.map_nil, wg, y9, yc, yd, yz, zne, Nat.zero_lt_succ, List.cons_append, List.nil_append, List.length_cons, List.length_nil, Nat.reduceAdd, Nat.reduceSub, Nat.zero_add, zm, yb, za, w8, zh, zg, xt, eq_self, yh, zt, q, yh, zt, xt, gc]
    exact ⟨_, _, rfl, by simp, a.more _, fun h => by have := (a.lt h).2; omega, p.le, p.more _⟩
  obtain ⟨v, h', q, s', c, rfl, g⟩ := this
  exact ⟨s', c, h', q, g⟩
structure M3 (P : RP) (mb : Nat) (h h' : Heap) : Prop where
  keep : ∀ (b : Nat) (o : AObj), h[b]? = some o → b ≠ P.r → b ≠ P.c → b ≠ mb → h'[b]? = some o
  le : h.length ≤ h'.length
theorem M3.refl (P : RP) (mb : Nat) (h : Heap) : M3 P mb h h := ⟨fun _ _ e _ _ _ => e, Nat.le_refl _⟩
theorem zxn (z0 z1 z2 z3 : Value) {row : List Value} (h : row.length = 4) : w4 [z0, z1, z2, z3] [(0, 4, agg row)] = some row := by
  match row, h with
  | [a, b, c, d], _ => exact zfb z0 z1 z2 z3 a b c d
def PaS (P : RP) (mb : Nat) (H4 : Heap) (R : PR (List Stm)) (m : Nat) (K : Heap) : Prop :=
  (∃ k ss T acc rows, m = P.L.length - k + 1 ∧ Rd P K k 0 0 0 ∧ K[mb]? = some (.cells [nils, ss] 0 false) ∧ Own [] K ss 4 rows ∧ StsP K T rows acc ∧ (∀ z, T z → mb < z ∧ z < K.length ∧ blk ss ≠ some z) ∧ (∀ b, blk ss = some b → mb < b) ∧ M3 P mb H4 K ∧ acc.length ≤ k ∧
    (∀ rc gs, Stm.lets rc gs ∈ acc → gs.length ≤ 8192) ∧ (match kf P.en P.L.length (P.L.drop k) with | .bad c a => R = .bad c a | .ok l r => R = .ok (acc ++ l) r)) ∨
  (∃ k c a x y z rows, m = 0 ∧ Rd P K k 0 c a ∧ c ≠ 0 ∧ R = .bad c a ∧ K[mb]? = some (.cells [nils, .slice x y z] 0 false) ∧ M3 P mb H4 K ∧ Own [] K (.slice x y z) 4 rows ∧ (∀ b, blk (.slice x y z) = some b → mb < b) ∧ rows.length ≤ 8193)
def PaI (P : RP) (mb : Nat) (H4 : Heap) (ns : Value) (R : PR (List Stm)) (m : Nat) (st : St) : Prop := ∃ K, (∃ j : Nat → Value, st = ⟨[j 0, ns, j 2, j 3, j 4, j 5, j 6, j 7, j 8, j 9, pt P.r, pt mb, j 12, j 13, j 14, j 15, j 16, j 17, j 18, j 19, j 20, j 21, j 22, j 23, j 24, j 25, j 26, j 27, j 28, j 29, j 30, j 31, j 32, j 33, j 34, j 35, j 36, j 37, j 38, j 39, j 40, j 41, j 42, j 43, j 44, j 45, j 46, j 47, j 48, j 49, j 50, j 51, j 52, j 53, j 54, j 55, j 56, j 57, j 58, j 59, j 60, j 61, j 62, j 63, j 64, j 65, j 66, j 67, j 68, j 69, j 70, j 71, j 72, j 73, j 74, j 75, j 76, j 77, j 78, j 79, j 80, j 81, j 82, j 83, j 84, j 85, j 86, j 87, j 88, j 89, j 90, j 91, j 92, j 93, j 94, j 95, j 96, j 97, j 98, j 99, j 100, j 101, j 102, j 103, j 104, j 105, j 106, j 107, j 108, j 109, j 110, j 111, j 112, j 113, j 114, j 115, j 116, j 117, j 118, j 119, j 120, j 121, j 122, j 123, j 124, j 125, j 126, j 127, j 128, j 129, j 130], K⟩) ∧ PaS P mb H4 R m K
theorem ya6 {P : RP} {mb : Nat} {H4 K : Heap} {R : PR (List Stm)} {k : Nat} {ss : Value} {T : Nat → Prop} {acc : List Stm} {rows : List (List Value)} (e4 : Rd P H4 0 0 0 0) (hl4 : H4.length = mb + 1) (hmr : mb ≠ P.r) (hmc : mb ≠ P.c) (hwm : blk P.ws ≠ some mb) (hcm : blk P.cs ≠ some mb) (hk : k < P.L.length) (eK : Rd P K k 0 0 0) (hm : K[mb]? = some (.cells [nils, ss] 0 false)) (own : Own [] K ss 4 rows) (st : StsP K T rows acc) (hT : ∀ z, T z → mb < z ∧ z < K.length ∧ blk ss ≠ some z) (hb : ∀ b, blk ss = some b → mb < b) (m4 : M3 P mb H4 K) (hacc : acc.length ≤ k)
    (hgs : ∀ rc gs, Stm.lets rc gs ∈ acc → gs.length ≤ 8192) (hR : (match kf P.en P.L.length (P.L.drop k) with | .bad c a => R = .bad c a | .ok l r => R = .ok (acc ++ l) r)) :
    ∃ row K1 x y z K2, row.length = 4 ∧ DF FF gt [pt P.r] K = some (agg row, K1) ∧ Heap.read1 K1 ⟨mb, 1, some 0⟩ = some ss ∧
      kh (K1 ++ [.cells row 0 false]) 4 64 ss (zc9 (K1 ++ [.cells row 0 false]) 4 (.slice (some ⟨K1.length, 0, some 0⟩) 1 4)) = some (.slice x y z, K2) ∧ Heap.write1 K2 ⟨mb, 1, some 0⟩ (.slice x y z) = some (K2.set mb (.cells [nils, .slice x y z] 0 false)) ∧
      ∃ m', m' < P.L.length - k + 1 ∧ PaS P mb H4 R m' (K2.set mb (.cells [nils, .slice x y z] 0 false)) := by
  have hL := P.len
  have lr := e4.lr; have lc := e4.lc
  obtain ⟨v, K1, q1, x1⟩ := ztu eK hk
  have m1 : Mv P K K1 := by
    cases hx : ze1 P.en (P.L.drop k) with
    | ok s r => rw [hx] at x1; obtain ⟨_, _, _, _, _, _, m⟩ := x1; exact m
    | bad c a => rw [hx] at x1; obtain ⟨_, _, _, _, _, m⟩ := x1; exact m
  obtain ⟨row, hrow, hr4⟩ : ∃ row, v = agg row ∧ row.length = 4 := by
    cases hx : ze1 P.en (P.L.drop k) with
    | ok s r => rw [hx] at x1; obtain ⟨row, _, hv, _, _, st, _⟩ := x1; exact ⟨row, hv, st.len⟩
    | bad c a => rw [hx] at x1; obtain ⟨row, hv, h4, _⟩ := x1; exact ⟨row, hv, h4⟩
  subst hrow
  have hm1 := m1.keep _ _ hm hmr hmc
  have own1 : Own [] K1 ss 4 rows := own.keep fun b hb' o ho => m1.keep b o ho (by have := hb b hb'; omega) (by have := hb b hb'; omega)
  obtain ⟨ss', K2, p1, p2, p3, p4, p5, p6⟩ := own1.push (⟨_, rfl⟩ : Pre [] K1) (row := row) (bytes := 64) hr4 (by rw [(st.len).1]; unfold k8; omega)
  obtain ⟨x, y, z, rfl⟩ := p2.slice
  have hbm : blk ss ≠ some mb := fun h => by have := hb _ h; omega
  have hm2 : K2[mb]? = some (.cells [nils, ss] 0 false) := p5 _ _ hm1 hbm
  have lm2 := (List.getElem?_eq_some_iff.1 hm2).1
  have blk2 : ∀ b, blk (.slice x y z) = some b → mb < b := fun b hb' => by
    rcases p6 with h | ⟨j, h, h'⟩
    · rw [h] at hb'; exact hb b hb'
    · rw [h] at hb'; cases hb'; have := (List.getElem?_eq_some_iff.1 hm1).1; omega
  have m2 : M3 P mb H4 (K2.set mb (.cells [nils, .slice x y z] 0 false)) := ⟨fun b o ho n1 n2 n3 => by
    have hlt := (List.getElem?_eq_some_iff.1 ho).1
    rw [List.getElem?_set_ne (Ne.symm n3)]
    exact p5 b o (m1.keep b o (m4.keep b o ho n1 n2 n3) n1 n2) fun h => by have := hb b h; omega, by rw [List.length_set]; have := m4.le; have := m1.le; omega⟩
  have rd2 : ∀ k' x' a', Rd P K1 k' 0 x' a' → Rd P (K2.set mb (.cells [nils, .slice x y z] 0 false)) k' 0 x' a' := fun k' x' a' e => by
    have kp : ∀ b o, b < H4.length → b ≠ mb → K1[b]? = some o → (K2.set mb (.cells [nils, .slice x y z] 0 false))[b]? = some o := fun b o hlt n3 ho => by
      rw [List.getElem?_set_ne (Ne.symm n3)]; exact p5 b o ho fun h => by have := hb b h; omega
    have wlt : ∀ b, blk P.ws = some b → b < H4.length ∧ b ≠ mb := fun b hb' => ⟨e4.sw.lt hb', by rintro rfl; exact hwm hb'⟩
    have clt : ∀ b, blk P.cs = some b → b < H4.length ∧ b ≠ mb := fun b hb' => ⟨e4.sc.lt hb', by rintro rfl; exact hcm hb'⟩
    exact ⟨kp _ _ lr (Ne.symm hmr) e.hr, kp _ _ lc (Ne.symm hmc) e.hc, e.sw.keep fun b hb' o ho => kp b o (wlt b hb').1 (wlt b hb').2 ho, e.sc.keep fun b hb' o ho => kp b o (clt b hb').1 (clt b hb').2 ho, e.le⟩
  refine ⟨row, K1, x, y, z, K2, hr4, q1, we hm1, p1, by rw [ph hm2 (by simp)]; rfl, ?_⟩
  rw [ycn hk] at hR
  cases hx : ze1 P.en (P.L.drop k) with
  | bad c a =>
    rw [hx] at x1 hR
    obtain ⟨_, _, _, hc, ⟨k', e1⟩, _⟩ := x1
    exact ⟨0, by omega, .inr ⟨k', c, a, x, y, z, rows ++ [row], rfl, rd2 _ _ _ e1, hc, hR, by rw [List.getElem?_set_self lm2], m2, p2.keep fun b hb' o ho => by rw [List.getElem?_set_ne (by have := blk2 b hb'; omega)]; exact ho, blk2, by rw [List.length_append, (st.len).1]; simp; omega⟩⟩
  | ok s r =>
    rw [hx] at x1 hR
    obtain ⟨row', k', hrr, rfl, e1, sp, _⟩ := x1
    have hrr : row = row' := by simpa [agg] using hrr
    subst hrr
    have hsh := hx
    rw [gz hk] at hsh
    obtain ⟨s1, s2⟩ := zc0 hsh
    simp only [List.length_drop] at s1 s2
    have kle := e1.le
    have hlK := (List.getElem?_eq_some_iff.1 hm).1
    refine ⟨P.L.length - k' + 1, by omega, .inl ⟨k', .slice x y z, fun w => T w ∨ Iv K.length K1.length w, acc ++ [s], rows ++ [row], rfl, rd2 _ _ _ e1, by rw [List.getElem?_set_self lm2], p2.keep fun b hb' o ho => by rw [List.getElem?_set_ne (by have := blk2 b hb'; omega)]; exact ho, ?_, ?_, blk2, m2, by simp; omega, ?_, ?_⟩⟩
    · refine StsP.snoc (sp.keep fun w o hw ho => ?_) (st.keep fun w o hw ho => ?_) fun w hw hI => by have := (hT w hw).2.1; have := hI.1; omega
      · rw [List.getElem?_set_ne (by have := hw.1; omega)]
        exact p5 w o ho fun h => by have := (own.lt h).2; have := hw.1; omega
      · obtain ⟨t1, t2, t3⟩ := hT w hw
        rw [List.getElem?_set_ne (by omega)]
        exact p5 w o (m1.keep w o ho (by omega) (by omega)) t3
    · intro w hw
      rw [List.length_set]
      have hlw : w < K1.length ∧ mb < w ∧ blk ss ≠ some w := by
        rcases hw with hw | hw
        · obtain ⟨t1, t2, t3⟩ := hT w hw; have := m1.le; exact ⟨by omega, t1, t3⟩
        · have := hw.1; have := hw.2; exact ⟨by omega, by omega, fun h => by have := (own.lt h).2; omega⟩
      refine ⟨hlw.2.1, by omega, fun h => ?_⟩
      rcases p6 with h6 | ⟨j, h6, h7⟩
      · rw [h6] at h; exact hlw.2.2 h
      · rw [h6] at h; cases h; omega
    · intro rc gs hmem
      rcases List.mem_append.1 hmem with hmem | hmem
      · exact hgs rc gs hmem
      · simp at hmem; have := s2 rc gs hmem.symm; omega
    · simp only at hR
      cases hq : kf P.en P.L.length (P.L.drop k') with
      | bad c a => rw [hq] at hR; exact hR
      | ok l2 r2 => rw [hq] at hR; simp only at hR ⊢; rw [hR]; simp
theorem zt0 {F : Funcs} {b : pv} {Q : AEx → St → Prop} (id : Nat) (I : Nat → St → Prop) (P : St → Prop) (step : ∀ m s, I m s → WPD (D F b s) (zx8 I m (outQ id P))) (m : Nat) (s : St) (h0 : I m s) (hq : ∀ s, P s → Q (.exit id) s) : WPD (D F (.loop b) s) Q :=
  (zi6 I step m s h0).mono fun x s ⟨hx, hp⟩ => by subst hx; exact hq s hp
structure PaE (P : RP) (mb : Nat) (H4 K : Heap) (R : PR (List Stm)) (k x a : Nat) (ss : Value) (rows : List (List Value)) : Prop where
  rd : Rd P K k 0 x a
  mo : K[mb]? = some (.cells [nils, ss] 0 false)
  own : Own [] K ss 4 rows
  lo : ∀ b, blk ss = some b → mb < b
  m3 : M3 P mb H4 K
  rl : rows.length ≤ 8193
  ok : x = 0 → a = 0 ∧ ∃ T acc, R = .ok acc [] ∧ StsP K T rows acc ∧ (∀ z, T z → mb < z ∧ z < K.length ∧ blk ss ≠ some z) ∧ (∀ rc gs, Stm.lets rc gs ∈ acc → gs.length ≤ 8192) ∧ acc.length ≤ 8192
  bad : x ≠ 0 → R = .bad x a
def PaO (P : RP) (mb : Nat) (H4 : Heap) (ns : Value) (R : PR (List Stm)) (st : St) : Prop := ∃ K, (∃ j : Nat → Value, st = ⟨[j 0, ns, j 2, j 3, j 4, j 5, j 6, j 7, j 8, j 9, pt P.r, pt mb, j 12, j 13, j 14, j 15, j 16, j 17, j 18, j 19, j 20, j 21, j 22, j 23, j 24, j 25, j 26, j 27, j 28, j 29, j 30, j 31, j 32, j 33, j 34, j 35, j 36, j 37, j 38, j 39, j 40, j 41, j 42, j 43, j 44, j 45, j 46, j 47, j 48, j 49, j 50, j 51, j 52, j 53, j 54, j 55, j 56, j 57, j 58, j 59, j 60, j 61, j 62, j 63, j 64, j 65, j 66, j 67, j 68, j 69, j 70, j 71, j 72, j 73, j 74, j 75, j 76, j 77, j 78, j 79, j 80, j 81, j 82, j 83, j 84, j 85, j 86, j 87, j 88, j 89, j 90, j 91, j 92, j 93, j 94, j 95, j 96, j 97, j 98, j 99, j 100, j 101, j 102, j 103, j 104, j 105, j 106, j 107, j 108, j 109, j 110, j 111, j 112, j 113, j 114, j 115, j 116, j 117, j 118, j 119, j 120, j 121, j 122, j 123, j 124, j 125, j 126, j 127, j 128, j 129, j 130], K⟩) ∧ ∃ k x a ss rows, PaE P mb H4 K R k x a ss rows
def ChkR (P : RP) (i : Nat) (S : Nat → Prop) (v : Value) (pl : Nat) (h' : Heap) : CR Ex → Prop
  | .ok e' => TreeP h' S v e' ∧ e'.pl = pl ∧ Rd P h' i 0 0 0
  | .bad c a => c ≠ 0 ∧ (∃ e', TreeP h' S v e' ∧ e'.pl = pl) ∧ Rd P h' i 0 c a
def zff (P : RP) (kn : Kn) (rc : List Bys) (rt : Bool) (e : Ex) : Prop := ∀ (hb h : Heap) (i0 i q km n : Nat) (rm : Value) (S : Nat → Prop) (v : Value), Rd P hb i0 0 0 0 → Rd P h i 0 0 0 → Ch P h q km rm n kn rc → TreeP h S v e → Cl P hb q km rm S → (∀ z, S z → z < h.length) →
  ∃ h', DF FF xn [pt q, v, .bool rt] h = some (tup [], h') ∧ ChkR P i S v e.pl h' (chkE kn rc rt e) ∧ Kp P S h h'
theorem ChkR.fin {P : RP} {i pl : Nat} {S : Nat → Prop} {v : Value} {h H : Heap} {R : CR Ex} (eh : Rd P h i 0 0 0) (k : Kp P S h H) (hS : ∀ z, S z → z < h.length) (r : ChkR P i S v pl H R) (w : Value) : ChkR P i S v pl (AM.finish h w H) R ∧ Kp P S h (AM.finish h w H) := by
  rcases zaf h H w with hf | ⟨hf, hk⟩
  · rw [hf]; exact ⟨r, k⟩
  · rw [hf]
    have g : ∀ b o, b < h.length → H[b]? = some o → h[b]? = some o := fun b o hb ho => by
      rw [← hk, List.getElem?_take, if_pos hb]; exact ho
    have rd : ∀ x a, Rd P H i 0 x a → Rd P h i 0 x a := fun x a e =>
      ⟨g _ _ eh.lr e.hr, g _ _ eh.lc e.hc, eh.sw, eh.sc, eh.le⟩
    refine ⟨?_, Kp.refl P S h⟩
    cases R with
    | ok e' => exact ⟨r.1.keep fun b o hb ho => g b o (hS b hb) ho, r.2.1, rd _ _ r.2.2⟩
    | bad c a =>
      obtain ⟨hc, ⟨e', t, hp⟩, e⟩ := r
      exact ⟨hc, ⟨e', t.keep fun b o hb ho => g b o (hS b hb) ho, hp⟩, rd _ _ e⟩
theorem qy (op w : Bys) (a : Nat) (l r : Value) (s : Bool) : (vd op w a l r s)[0]? = some (str op) := rfl
theorem zhh (op w : Bys) (a : Nat) (l r : Value) (s : Bool) : (vd op w a l r s)[1]? = some (str w) := rfl
theorem qf (op w : Bys) (a : Nat) (l r : Value) (s : Bool) : (vd op w a l r s)[3]? = some l := rfl
theorem qi (op w : Bys) (a : Nat) (l r : Value) (s : Bool) : (vd op w a l r s)[4]? = some r := rfl
theorem zb1 (op w : Bys) (a : Nat) (l r : Value) (s : Bool) : (vd op w a l r s)[5]? = some (.bool s) := rfl
theorem zjl (op w : Bys) (a : Nat) (l r : Value) (s t : Bool) : (vd op w a l r s).set 5 (.bool t) = vd op w a l r t := rfl
theorem Rd.node {P : RP} {hb h : Heap} {i i' x a x' a' d d' b : Nat} (e0 : Rd P hb i d x a) (e : Rd P h i' d' x' a') (hlb : hb.length ≤ b) (o : AObj) : Rd P (h.set b o) i' d' x' a' := e0.upd e hlb o
theorem Kp.set {P : RP} {S : Nat → Prop} {h h' : Heap} {b : Nat} (k : Kp P S h h') (hb : S b) (o : AObj) : Kp P S h (h'.set b o) :=
  ⟨fun c o' ho n1 n2 => by rw [List.getElem?_set_ne (by rintro rfl; exact n1 hb)]; exact k.keep c o' ho n1 n2, by rw [List.length_set]; exact k.le⟩
set_option maxHeartbeats 4000000 in
theorem zv0 (P : RP) (kn : Kn) (rc : List Bys) (s : Bool) (a : Nat) (w : Bys) (rt : Bool) : zff P kn rc rt (.name s a w) := by
  intro hb h i0 i q km n rm S v e0 eh ch tr cl hS
  obtain ⟨b, rfl, hbS, hbo⟩ := tr
  have : ∃ v h', DF FF xn [pt q, pt b, .bool rt] h = some (v, h') ∧ (v = tup [] ∧ ChkR P i S (pt b) a h' (chkE kn rc rt (.name s a w)) ∧ Kp P S h h') := by
    refine wz qb ?_
    obtain ⟨h0, hh0⟩ : ∃ h0, h0 = h ++ [AObj.cells [pt q] 0 false] := ⟨_, rfl⟩
    have eh0 : Rd P h0 i 0 0 0 := by rw [hh0]; exact eh.more _
    have k0 : Kp P S h h0 := by rw [hh0]; exact Kp.add _ _ _ _
    have hbb : h0[h.length]? = some (.cells [pt q] 0 false) := by rw [hh0]; simp
    have ch0 := ch.kp eh k0 cl.q cl.k cl.r
    have hn : h0[b]? = some (.cells (vd zfv w a nilP nilP s) 0 false) := by rw [hh0]; exact xa _ hbo
    have rb : ∀ j, Heap.read1 h0 ⟨b, j, some 0⟩ = (vd zfv w a nilP nilP s)[j]? := fun j => we hn
    have rq : ∀ j, Heap.read1 h0 ⟨q, j, some 0⟩ = ([pt P.r, .map (some km), rm, .int .i64 (n : Int)] : List Value)[j]? := fun j => we ch0.cq
    have rbb : ∀ j, Heap.read1 h0 ⟨h.length, j, some 0⟩ = ([pt q] : List Value)[j]? := fun j => we hbb
    have nil1 := fun rt => zgd (q := q) eh0 rt
    have lk := zhw h0 ch0.ck (.bool false) true (w := w) (ztj kn w)
    have lr : zo9 h0 .str (.bool false) false rm (str w) = some (.bool (rc.contains w), h0) := by
      rcases ch0.cr with ⟨h1, h2⟩ | ⟨b', h1, h2⟩
      · rw [h1, h2, ybp]; rfl
      · rw [h1]
        rw [zhw h0 h2 (.bool false) false (w := w) (zx3 rc w)]
        cases rc.contains w <;> rfl
    have wb : ∀ (K : Heap) (t : Bool), K[b]? = some (.cells (vd zfv w a nilP nilP s) 0 false) → Heap.write1 K ⟨b, 5, some 0⟩ (.bool t) = some (K.set b (.cells (vd zfv w a nilP nilP t) 0 false)) := fun K t hK => by rw [ph hK (by simp [vd]), zjl]
    have fin : ∀ (K : Heap) (t : Bool) (x p : Nat), Rd P K i 0 x p → Kp P S h K → K[b]? = some (.cells (vd zfv w a nilP nilP s) 0 false) → (x = 0 → p = 0) → ∀ R, (R = if x = 0 then CR.ok (.name t a w) else .bad x p) → ChkR P i S (pt b) a (K.set b (.cells (vd zfv w a nilP nilP t) 0 false)) R ∧ Kp P S h (K.set b (.cells (vd zfv w a nilP nilP t) 0 false)) := by
      intro K t x p eK kK hK hx R hR
      have hlt := (List.getElem?_eq_some_iff.1 hK).1
      have tr : TreeP (K.set b (.cells (vd zfv w a nilP nilP t) 0 false)) S (pt b) (.name t a w) := ⟨b, rfl, hbS, List.getElem?_set_self hlt⟩
      refine ⟨?_, kK.set hbS _⟩
      rw [hR]
      by_cases h0 : x = 0
      · subst h0
        obtain rfl := hx rfl
        exact ⟨tr, rfl, e0.node eK (cl.lo b hbS) _⟩
      · rw [if_neg h0]
        exact ⟨h0, ⟨_, tr, rfl⟩, e0.node eK (cl.lo b hbS) _⟩
    have cb : (b = P.r) = False := by have := cl.lo b hbS; have := e0.lr; simp; omega
    have cc : (b = P.c) = False := by have := cl.lo b hbS; have := e0.lc; simp; omega
    cases hl : ji kn w with
    | none =>
      rw [hl] at lk
      obtain ⟨K, f, eK, mK⟩ := zjx eh0 40 a (by omega)
      simp only [Int.cast_ofNat_Int] at f
      have kK : Kp P S h K := (k0.trans (mK.kp fun o ho => by rw [eK.hc, ← eh0.hc]; exact ho)).weak fun z hz => hz.elim id False.elim
      have hK := mK.keep _ _ hn (by rw [ne_eq, cb]; exact not_false) (by rw [ne_eq, cc]; exact not_false)
      obtain ⟨f1, f2⟩ := fin K false 40 a eK kK hK (by omega) (chkE kn rc rt (.name s a w)) (by rw [chkE, hl]; rfl)
      have ff := ChkR.fin eh f2 hS f1
      simp only [Option.map_none, zi7, if_true] at lk
      cases rt
      · simp only [y3, z7, zr, yl, zb, zw, zu, z8, zn, ye, zc, zp, yr, zo, zf, ze, zd, List.set_cons_succ, List.set_cons_zero, O_mv, yw, xf, yu, yg, O_un, yf, List.map_cons, List.map_nil, zz, zk, vp, List.cons_append, List.nil_append, List.length_cons, List.length_nil, Nat.reduceAdd, Nat.reduceSub, Nat.zero_add, Bool.not_true, Bool.not_false, zm, yb, zx, za, zi, w8, xc, z6, xg, y7, zl, xd, fe, zq, zj, zh, zg, Nat.add_zero, List.getElem?_cons_zero, List.getElem?_cons_succ, Bool.bne_false, beq_self_eq_true, jq, eq_self, zt, yi, w9, laid, zt, ← hh0, xo, xq, rbb, rq, ok_0 eh0, rb, qy, zhh, f7, qf, qi, nil1, g9, zfv, yds, fc, lk, f, wb K false hK, wn]
        exact ⟨trivial, ff _⟩
      · simp only [y3, z7, zr, yl, zb, zw, zu, z8, zn, ye, zc, zp, yr, wi, zo, zf, ze, zd, List.set_cons_succ, List.set_cons_zero, O_mv, yw, xf, yu, yg, O_un, yf, List.map_cons, List.map_nil, zz, zk, vp, List.cons_append, List.nil_append, List.length_cons, List.length_nil, Nat.reduceAdd, Nat.reduceSub, Nat.zero_add, Bool.not_true, Bool.not_false, zm, yb, zx, za, zi, w8, xc, z6, xg, y7, zl, xd, fe, zq, zj, zh, zg, Nat.add_zero, List.getElem?_cons_zero, List.getElem?_cons_succ, Bool.bne_false, beq_self_eq_true, jq, eq_self, zt, yi, w9, laid, zt, ← hh0, xo, xq, rbb, rq, ok_0 eh0, rb, qy, zhh, f7, qf, qi, nil1, g9, zfv, fc, lk, f, wb K false hK, wn]
        exact ⟨trivial, ff _⟩
    | some t =>
      rw [hl] at lk
      simp only [Option.map_some, zi7, if_true] at lk
      cases hm : (rt && rc.contains w)
      · obtain ⟨f1, f2⟩ := fin h0 t 0 0 eh0 k0 hn (fun _ => rfl) (chkE kn rc rt (.name s a w)) (by rw [chkE, hl]; simp only [hm]; rfl)
        have ff := ChkR.fin eh f2 hS f1
        cases rt
        · simp only [y3, z7, zr, yl, zb, zw, zu, z8, zn, ye, zc, zp, yr, w5, zo, zf, ze, zd, List.set_cons_succ, List.set_cons_zero, O_mv, yw, xf, yu, yg, O_un, yf, List.map_cons, List.map_nil, zz, zk, vp, List.cons_append, List.nil_append, List.length_cons, List.length_nil, Nat.reduceAdd, Nat.reduceSub, Nat.zero_add, Bool.not_true, zm, yb, zx, za, zi, w8, xc, z6, xg, y7, zl, xd, fe, zq, zj, zh, zg, Nat.add_zero, List.getElem?_cons_zero, List.getElem?_cons_succ, Bool.bne_false, beq_self_eq_true, jq, eq_self, zt, yi, w9, laid, zt, ← hh0, xo, xq, rbb, rq, ok_0 eh0, rb, qy, zhh, qf, qi, nil1, g9, zfv, yds, fc, lk, wb h0 t hn, wn]
          exact ⟨trivial, ff _⟩
        · rw [Bool.true_and] at hm
          simp only [y3, z7, zr, yl, zb, zw, zu, z8, zn, ye, zc, zp, xl, yr, wi, zo, zf, ze, zd, List.set_cons_succ, List.set_cons_zero, O_mv, yw, xf, yu, yg, O_un, yf, List.map_cons, List.map_nil, zz, zk, vp, List.cons_append, List.nil_append, List.length_cons, List.length_nil, Nat.reduceAdd, Nat.reduceSub, Nat.zero_add, Bool.not_true, zm, yb, zx, za, zi, w8, xc, z6, xg, y7, zl, xd, fe, zq, zj, zh, zg, Nat.add_zero, List.getElem?_cons_zero, List.getElem?_cons_succ, Bool.bne_false, beq_self_eq_true, jq, eq_self, zt, yi, w9, laid, zt, ← hh0, xo, xq, rbb, rq, ok_0 eh0, rb, qy, zhh, qf, qi, nil1, g9, zfv, fc, lk, lr, hm, wb h0 t hn, wn]
          exact ⟨trivial, ff _⟩
      · obtain ⟨K, f, eK, mK⟩ := zjx eh0 43 a (by omega)
        simp only [Int.cast_ofNat_Int] at f
        have kK : Kp P S h K := (k0.trans (mK.kp fun o ho => by rw [eK.hc, ← eh0.hc]; exact ho)).weak fun z hz => hz.elim id False.elim
        have hK := mK.keep _ _ hn (by rw [ne_eq, cb]; exact not_false) (by rw [ne_eq, cc]; exact not_false)
        obtain ⟨f1, f2⟩ := fin K t 43 a eK kK hK (by omega) (chkE kn rc rt (.name s a w)) (by rw [chkE, hl]; simp only [hm]; rfl)
        have ff := ChkR.fin eh f2 hS f1
        rw [Bool.and_eq_true] at hm
        obtain ⟨rfl, hm⟩ := hm
        simp only [y3, z7, zr, yl, zb, zw, zu, z8, zn, ye, zc, zp, xl, yr, wi, zo, zf, ze, zd, List.set_cons_succ, List.set_cons_zero, O_mv, yw, xf, yu, yg, O_un, yf, List.map_cons, List.map_nil, zz, zk, vp, List.cons_append, List.nil_append, List.length_cons, List.length_nil, Nat.reduceAdd, Nat.reduceSub, Nat.zero_add, Bool.not_true, zm, yb, zx, za, zi, w8, xc, z6, xg, y7, zl, xd, fe, zq, zj, zh, zg, Nat.add_zero, List.getElem?_cons_zero, List.getElem?_cons_succ, Bool.bne_false, beq_self_eq_true, jq, eq_self, zt, yi, w9, laid, zt, ← hh0, xo, xq, rbb, rq, ok_0 eh0, rb, qy, zhh, f7, qf, qi, nil1, g9, zfv, fc, lk, lr, hm, f, wb K t hK, wn]
        exact ⟨trivial, ff _⟩
  obtain ⟨v, h', r, rfl, g⟩ := this
  exact ⟨h', r, g⟩
end Go.Proofs.YtljdbheclfaloaaGreatDoor.AM
