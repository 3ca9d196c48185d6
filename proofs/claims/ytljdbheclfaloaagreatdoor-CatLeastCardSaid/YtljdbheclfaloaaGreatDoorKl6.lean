/-
  The machine, the functions, what they come to: part 6.
  Conditions: as each says.
-/
import Derived.Test.YtljdbheclfaloaaGreatDoorKl5
namespace Go.Proofs.YtljdbheclfaloaaGreatDoor.AM
open Go.RowKit
set_option linter.unusedSimpArgs false
set_option linter.unusedVariables false

theorem zqb {P : RP} {h K : Heap} {i k : Nat} {rc : Bool} {R : PR Stm} (e : Rd P h i 0 0 0) {s : Value} {vs : List Value} {S : Nat → Prop} {acc : List Gv} (eK : Rd P K k 0 0 0) (hz0 : K[h.length]? = some (.cells z4 0 false)) (hz1 : K[h.length + 1]? = some (.cells [str (kwOf rc), s, nilP, str []] 0 false)) (own : Own [] K s 3 (List.zipWith qi acc vs)) (gs : GsP K S vs acc)
    (hS : ∀ z, S z → h.length + 2 ≤ z ∧ z < K.length ∧ blk s ≠ some z) (hb : ∀ b, blk s = some b → h.length + 2 ≤ b) (mK : Mv P h K) (hacc : acc.length ≤ k)
    (hg : (match p9 P.en (P.L.length + 1) (P.L.drop k) with | .bad c a => R = .bad c a | .ok gs r => R = .ok (.lets rc (acc ++ gs)) r)) :
    ∃ w p K1 K2 K3 b a' n' c' K4 k3 x a, DF FF jv [pt P.r] (K ++ [.cells [str [], .int .i64 0, nilP] 0 false]) = some (tup [str w, .int .i64 p], K1) ∧ K1[K.length]? = some (.cells [str [], .int .i64 0, nilP] 0 false) ∧
      DF FF qb [pt P.r, str [61]] (K1.set K.length (.cells [str w, .int .i64 p, nilP] 0 false)) = some (tup [], K2) ∧ DF FF xy [pt P.r] K2 = some (pt b, K3) ∧ K3[K.length]? = some (.cells [str w, .int .i64 p, nilP] 0 false) ∧
      K3[h.length + 1]? = some (.cells [str (kwOf rc), s, nilP, str []] 0 false) ∧
      ge (K3.set K.length (.cells [str w, .int .i64 p, pt b] 0 false) ++ [.cells [str w, .int .i64 p, pt b] 0 false]) 3 32 s (zdl (K3.set K.length (.cells [str w, .int .i64 p, pt b] 0 false) ++ [.cells [str w, .int .i64 p, pt b] 0 false]) 3 (.slice (some ⟨K3.length, 0, some 0⟩) 1 3)) = some (.slice a' n' c', K4) ∧
      K4[h.length + 1]? = some (.cells [str (kwOf rc), s, nilP, str []] 0 false) ∧
      Rd P (K4.set (h.length + 1) (.cells [str (kwOf rc), .slice a' n' c', nilP, str []] 0 false)) k3 0 x a ∧ Mv P h (K4.set (h.length + 1) (.cells [str (kwOf rc), .slice a' n' c', nilP, str []] 0 false)) ∧
      (K4.set (h.length + 1) (.cells [str (kwOf rc), .slice a' n' c', nilP, str []] 0 false))[h.length]? = some (.cells z4 0 false) ∧
      (K4.set (h.length + 1) (.cells [str (kwOf rc), .slice a' n' c', nilP, str []] 0 false))[h.length + 1]? = some (.cells [str (kwOf rc), .slice a' n' c', nilP, str []] 0 false) ∧
      ((x ≠ 0 ∧ R = .bad x a) ∨ (x = 0 ∧ a = 0 ∧ k < k3 ∧ ∃ S' g, Own [] (K4.set (h.length + 1) (.cells [str (kwOf rc), .slice a' n' c', nilP, str []] 0 false)) (.slice a' n' c') 3 (List.zipWith qi (acc ++ [g]) (vs ++ [pt b])) ∧
        GsP (K4.set (h.length + 1) (.cells [str (kwOf rc), .slice a' n' c', nilP, str []] 0 false)) S' (vs ++ [pt b]) (acc ++ [g]) ∧ (∀ z, S' z → h.length + 2 ≤ z ∧ z < (K4.set (h.length + 1) (.cells [str (kwOf rc), .slice a' n' c', nilP, str []] 0 false)).length ∧ blk (.slice a' n' c') ≠ some z) ∧ (∀ b, blk (.slice a' n' c') = some b → h.length + 2 ≤ b) ∧
        (if keyT (y3 P k3) == wAnd then (match p9 P.en (P.L.length + 1) (P.L.drop (k3 + 1)) with | .bad c a => R = .bad c a | .ok gs r => R = .ok (.lets rc ((acc ++ [g]) ++ gs)) r) else R = .ok (.lets rc (acc ++ [g])) (P.L.drop k3)))) := by
  have lr := e.lr; have lc := e.lc; have hL := P.len; have lK := mK.le
  have lz := (List.getElem?_eq_some_iff.1 hz1).1
  obtain ⟨w, p, K1, q1, x1, m1⟩ := zzh (eK.more [.cells [str [], .int .i64 0, nilP] 0 false])
  have o1 : K1[K.length]? = some (.cells [str [], .int .i64 0, nilP] 0 false) := m1.keep _ _ (by simp) (by omega) (by omega)
  have l1 := (List.getElem?_eq_some_iff.1 o1).1
  have mK1 : Mv P K K1 := (Mv.add P K _).trans m1
  have mE1 : Mv P K (K1.set K.length (.cells [str w, .int .i64 p, nilP] 0 false)) := mK1.upd (Nat.le_refl _) _
  have oE1 : (K1.set K.length (.cells [str w, .int .i64 p, nilP] 0 false))[K.length]? = some (.cells [str w, .int .i64 p, nilP] 0 false) := by rw [List.getElem?_set_self l1]
  have hgs : blk s ≠ some K.length := fun hh => by have := (own.lt hh).2; omega
  have rl : (List.zipWith qi acc vs).length ≤ 10000 := by rw [zet gs.len]; have := eK.le; omega
  -- whatever is read behind the name
  have all : ∀ (K3 : Heap) (b k3 x a : Nat), Rd P K3 k3 0 x a → Mv P (K1.set K.length (.cells [str w, .int .i64 p, nilP] 0 false)) K3 → _ := fun K3 b k3 x a e3 m3 =>
    yb9 (kw := kwOf rc) (s := s) (rows := List.zipWith qi acc vs) (pt b) e e3 (m3.keep _ _ oE1 (by omega) (by omega)) (by omega) hgs ((mE1.trans m3).keep _ _ hz0 (by omega) (by omega)) ((mE1.trans m3).keep _ _ hz1 (by omega) (by omega)) (own.keep fun c hc o ho => (mE1.trans m3).keep c o ho (by have := hb c hc; omega) (by have := hb c hc; omega)) hb rl (mK.trans (mE1.trans m3))
  have o3 : ∀ K3, Mv P (K1.set K.length (.cells [str w, .int .i64 p, nilP] 0 false)) K3 → K3[K.length]? = some (.cells [str w, .int .i64 p, nilP] 0 false) ∧ K3[h.length + 1]? = some (.cells [str (kwOf rc), s, nilP, str []] 0 false) := fun K3 m3 => ⟨m3.keep _ _ oE1 (by omega) (by omega), (mE1.trans m3).keep _ _ hz1 (by omega) (by omega)⟩
  have hgv := ydv P k
  have bad : ∀ c a, zl7 P.en (P.L.drop k) = .bad c a → R = .bad c a := fun c a hq => by rw [zzl hq] at hg; exact hg
  cases hn : zbn (y3 P k)
  · rw [hn, if_neg Bool.false_ne_true] at x1 hgv
    have eE1 : Rd P (K1.set K.length (.cells [str w, .int .i64 p, nilP] 0 false)) k 0 (zai P k) (za1 P k) := eK.upd x1 (Nat.le_refl _) _
    obtain ⟨b, K3, q3, e3, m3⟩ := zh7 _ _ _ _ _ eE1 (fj P k)
    obtain ⟨a', n', c', K4, r1, r2, r3, r4, r5, r6, r7, r8, r9, r10, r11⟩ := all K3 b k _ _ e3 m3
    exact ⟨w, p, K1, _, K3, b, a', n', c', K4, k, _, _, q1, o1, zq7 eE1 (fj P k) [61], q3, (o3 K3 m3).1, (o3 K3 m3).2, r1, r2, r3, r9, r4, r5, .inl ⟨fj P k, bad _ _ hgv⟩⟩
  · rw [hn, if_pos rfl] at x1 hgv
    obtain ⟨rfl, rfl, x1⟩ := x1
    have eE1 := eK.upd x1 (Nat.le_refl _) (.cells [str (y3 P k).text, .int .i64 ((y3 P k).at_ : Int), nilP] 0 false)
    obtain ⟨K2, q2, x2, m2⟩ := ztp eE1 (m := [61]) (by simp)
    cases k61 : (keyT (y3 P (k + 1)) == [61])
    · rw [k61, if_neg Bool.false_ne_true] at x2 hgv
      obtain ⟨b, K3, q3, e3, m3⟩ := zh7 _ _ _ _ _ x2 (fj P (k + 1))
      obtain ⟨a', n', c', K4, r1, r2, r3, r4, r5, r6, r7, r8, r9, r10, r11⟩ := all K3 b _ _ _ e3 (m2.trans m3)
      exact ⟨_, _, K1, K2, K3, b, a', n', c', K4, _, _, _, q1, o1, q2, q3, (o3 K3 (m2.trans m3)).1, (o3 K3 (m2.trans m3)).2, r1, r2, r3, r9, r4, r5, .inl ⟨fj P (k + 1), bad _ _ hgv⟩⟩
    · rw [k61, if_pos rfl] at x2 hgv
      obtain ⟨v, K3, q3, x3⟩ := zw0 P 32 0 rfl K2 (k + 1 + 1) x2
      obtain ⟨b, rfl⟩ := x3.ptr
      cases hx : zkl P.en 32 (P.L.drop (k + 1 + 1)) with
      | bad c a =>
        rw [hx] at x3 hgv
        obtain ⟨hc, ⟨k3, e3⟩, m3, _⟩ := x3
        obtain ⟨a', n', c', K4, r1, r2, r3, r4, r5, r6, r7, r8, r9, r10, r11⟩ := all K3 b _ _ _ e3 (m2.trans m3)
        exact ⟨_, _, K1, K2, K3, b, a', n', c', K4, _, _, _, q1, o1, q2, q3, (o3 K3 (m2.trans m3)).1, (o3 K3 (m2.trans m3)).2, r1, r2, r3, r9, r4, r5, .inl ⟨hc, bad _ _ hgv⟩⟩
      | ok y r =>
        rw [hx] at x3 hgv
        obtain ⟨k3, rfl, e3, t3, m3⟩ := x3
        have m13 := m2.trans m3
        have mK3 := mE1.trans m13
        obtain ⟨a', n', c', K4, r1, r2, r3, r4, r5, r6, r7, r8, r9, r10, r11⟩ := all K3 b _ _ _ e3 m13
        have hsz := zib hgv
        simp only [List.length_drop] at hsz
        have l12 := m2.le
        rw [List.length_set] at l12
        have l3 := m3.le
        refine ⟨_, _, K1, K2, K3, b, a', n', c', K4, k3, 0, 0, q1, o1, q2, q3, (o3 K3 m13).1, (o3 K3 m13).2, r1, r2, r3, r9, r4, r5, .inr ⟨rfl, rfl, by omega, fun z => S z ∨ Iv K2.length K3.length z, ⟨(y3 P k).text, (y3 P k).at_, y⟩, ?_, ?_, ?_, r7, ?_⟩⟩
        · rw [yam gs.len]; exact r6
        · refine GsP.snoc (t3.keep fun c o hc ho => r10 c o ho (by have := hc.1; omega) (by have := hc.1; omega) fun hh => by have := (own.lt hh).2; have := hc.1; omega) (gs.keep fun c o hc ho => r10 c o (mK3.keep c o ho (by have := (hS c hc).1; omega) (by have := (hS c hc).1; omega)) (by have := (hS c hc).2.1; omega) (by have := (hS c hc).1; omega) (hS c hc).2.2) fun z hz hT => by have := (hS z hz).2.1; have := hT.1; omega
        · intro z hz
          rcases hz with hz | hz
          · obtain ⟨s1, s2, s3⟩ := hS z hz
            exact ⟨s1, by omega, r8 z (by omega) s3⟩
          · have := hz.1; have := hz.2
            exact ⟨by omega, by omega, r8 z (by omega) fun hh => by have := (own.lt hh).2; omega⟩
        · rw [zz9 hgv] at hg
          cases kw : (keyT (y3 P k3) == wAnd)
          · rw [kw, if_neg Bool.false_ne_true] at hg
            rw [if_neg Bool.false_ne_true]; exact hg
          · rw [kw, if_pos rfl] at hg
            rw [if_pos rfl]
            cases hq : p9 P.en (P.L.length + 1) (P.L.drop (k3 + 1)) with
            | bad c a => rw [hq] at hg; exact hg
            | ok gs2 r => rw [hq] at hg; simp only at hg ⊢; rw [hg]; simp
end Go.Proofs.YtljdbheclfaloaaGreatDoor.AM
namespace Go.Proofs.YtljdbheclfaloaaGreatDoor.AM
open Go.RowKit
set_option linter.unusedSimpArgs false
set_option linter.unusedVariables false

theorem zo7 {P : RP} {h : Heap} {R : PR Stm} (rc : Bool) (K : Heap) (k : Nat) (eK : Rd P K k 0 0 0) (mK : Mv P h K) (h0 : K[h.length]? = some (.cells z4 0 false)) (h1 : K[h.length + 1]? = some (.cells [str (kwOf rc), .slice none 0 0, nilP, str []] 0 false)) (hRk : R = zon P.en rc (P.L.drop k)) : LetS P h R rc (P.L.length - k + 1) K k := by
  refine ⟨.slice none 0 0, [], fun _ => False, [], rfl, eK, h0, h1, Own.nil _ _ _, trivial, fun z hz => hz.elim, by intro b hb; simp [blk] at hb, mK, Nat.zero_le _, ?_⟩
  unfold zon at hRk
  rw [zhk P.en _ (P.L.length + 1) (P.L.drop k) (Nat.lt_succ_self _) (by simp; omega)] at hRk
  rw [hRk]
  cases p9 P.en (P.L.length + 1) (P.L.drop k) <;> rfl
theorem ya6 {P : RP} {k k' : Nat} {c : Ck} {x : Ex} (h : zkl P.en 32 (P.L.drop k) = .ok x (P.L.drop k')) : ze3 P.en c (P.L.drop k) = if keyT (y3 P k') == wAs then (if zbn (y3 P (k' + 1)) then .ok (.chk c x (y3 P (k' + 1)).text) (P.L.drop (k' + 1 + 1)) else .bad (zai P (k' + 1)) (za1 P (k' + 1))) else .ok (.chk c x []) (P.L.drop k') := by
  unfold ze3
  rw [h]
  by_cases hk : k' < P.L.length
  · rw [gz hk]
    simp only
    rw [zuw]
    split
    · split <;> (rename_i hh; split at hh <;> first | (cases hh; done) | (rename_i hh2; cases hh; simp [hh2]) | skip)
      all_goals simp_all
    · rfl
  · rw [List.drop_eq_nil_of_le (by omega), j8 hk, zew]; rfl
theorem Rd.finS {P : RP} {h H : Heap} {i k x a : Nat} (e : Rd P h i 0 0 0) (e' : Rd P H k 0 x a) (m : Mv P h H) (v : Value) (hne : i ≠ k ∨ x ≠ 0) : AM.finish h v H = H := e.fin e' m v (by rcases hne with h | h <;> simp [h]; omega)
theorem zyl {P : RP} {h E : Heap} {i k x a : Nat} {R : PR Stm} {rc : Bool} {a' : Option Addr} {n' c' : Nat} (e : Rd P h i 0 0 0) (e5 : Rd P E k 0 x a) (m5 : Mv P h E)
    (h1 : E[h.length + 1]? = some (.cells [str (kwOf rc), .slice a' n' c', nilP, str []] 0 false)) (hx : x ≠ 0) (hR : R = .bad x a) : StR P h (agg [str (kwOf rc), .slice a' n' c', nilP, str []]) (E.set h.length (.cells [str (kwOf rc), .slice a' n' c', nilP, str []] 0 false)) R := by
  rw [hR]
  exact ⟨_, rfl, rfl, hx, ⟨k, e.upd e5 (Nat.le_refl _) _⟩, m5.upd (Nat.le_refl _) _⟩
theorem zhj {P : RP} {h E : Heap} {i k : Nat} {c : Ck} (e : Rd P h i 0 0 0) (eE : Rd P E k 0 0 0) (mE : Mv P h E) (h0 : E[h.length]? = some (.cells z4 0 false)) (h1 : E[h.length + 1]? = some (.cells [str (ckS c), .slice none 0 0, nilP, str []] 0 false)) (hik : i < k) :
    ∃ b K3 k3 x a, DF FF xy [pt P.r] E = some (pt b, K3) ∧ K3[h.length + 1]? = some (.cells [str (ckS c), .slice none 0 0, nilP, str []] 0 false) ∧
      Rd P (K3.set (h.length + 1) (.cells [str (ckS c), .slice none 0 0, pt b, str []] 0 false)) k3 0 x a ∧ (K3.set (h.length + 1) (.cells [str (ckS c), .slice none 0 0, pt b, str []] 0 false))[h.length]? = some (.cells z4 0 false) ∧
      (K3.set (h.length + 1) (.cells [str (ckS c), .slice none 0 0, pt b, str []] 0 false))[h.length + 1]? = some (.cells [str (ckS c), .slice none 0 0, pt b, str []] 0 false) ∧
      ((x ≠ 0 ∧ (∀ v, AM.finish h v ((K3.set (h.length + 1) (.cells [str (ckS c), .slice none 0 0, pt b, str []] 0 false)).set h.length (.cells [str (ckS c), .slice none 0 0, pt b, str []] 0 false)) = (K3.set (h.length + 1) (.cells [str (ckS c), .slice none 0 0, pt b, str []] 0 false)).set h.length (.cells [str (ckS c), .slice none 0 0, pt b, str []] 0 false)) ∧
        StR P h (agg [str (ckS c), .slice none 0 0, pt b, str []]) ((K3.set (h.length + 1) (.cells [str (ckS c), .slice none 0 0, pt b, str []] 0 false)).set h.length (.cells [str (ckS c), .slice none 0 0, pt b, str []] 0 false)) (ze3 P.en c (P.L.drop k))) ∨
       (x = 0 ∧ ∃ K5, DF FF w5 [pt P.c, .slice (some ⟨K3.length, 0, some 0⟩) 1 1] (K3.set (h.length + 1) (.cells [str (ckS c), .slice none 0 0, pt b, str []] 0 false) ++ [.cells [str [97, 115]] 0 false]) = some (.bool (keyT (y3 P k3) == wAs), K5) ∧
        K5[h.length]? = some (.cells z4 0 false) ∧ K5[h.length + 1]? = some (.cells [str (ckS c), .slice none 0 0, pt b, str []] 0 false) ∧
        (((keyT (y3 P k3) == wAs) = false ∧ (∀ v, AM.finish h v (K5.set h.length (.cells [str (ckS c), .slice none 0 0, pt b, str []] 0 false)) = K5.set h.length (.cells [str (ckS c), .slice none 0 0, pt b, str []] 0 false)) ∧
          StR P h (agg [str (ckS c), .slice none 0 0, pt b, str []]) (K5.set h.length (.cells [str (ckS c), .slice none 0 0, pt b, str []] 0 false)) (ze3 P.en c (P.L.drop k))) ∨
         ((keyT (y3 P k3) == wAs) = true ∧ ∃ w p K6, DF FF jv [pt P.r] K5 = some (tup [str w, .int .i64 p], K6) ∧ K6[h.length + 1]? = some (.cells [str (ckS c), .slice none 0 0, pt b, str []] 0 false) ∧ K6[h.length]? = some (.cells z4 0 false) ∧
          (∀ v, AM.finish h v ((K6.set (h.length + 1) (.cells [str (ckS c), .slice none 0 0, pt b, str w] 0 false)).set h.length (.cells [str (ckS c), .slice none 0 0, pt b, str w] 0 false)) = (K6.set (h.length + 1) (.cells [str (ckS c), .slice none 0 0, pt b, str w] 0 false)).set h.length (.cells [str (ckS c), .slice none 0 0, pt b, str w] 0 false)) ∧
          StR P h (agg [str (ckS c), .slice none 0 0, pt b, str w]) ((K6.set (h.length + 1) (.cells [str (ckS c), .slice none 0 0, pt b, str w] 0 false)).set h.length (.cells [str (ckS c), .slice none 0 0, pt b, str w] 0 false)) (ze3 P.en c (P.L.drop k)))))) := by
  have lr := e.lr; have lc := e.lc; have lE := mE.le
  have lz := (List.getElem?_eq_some_iff.1 h1).1
  obtain ⟨v, K3, q3, x3⟩ := zw0 P 32 0 rfl E k eE
  obtain ⟨b, rfl⟩ := x3.ptr
  have m3 : Mv P E K3 := by
    cases hx : zkl P.en 32 (P.L.drop k) with
    | ok y r => rw [hx] at x3; obtain ⟨_, _, _, _, m⟩ := x3; exact m
    | bad c a => rw [hx] at x3; exact x3.2.2.1
  have t1 := m3.keep _ _ h1 (by omega) (by omega)
  have t0 := m3.keep _ _ h0 (by omega) (by omega)
  have l3 := (List.getElem?_eq_some_iff.1 t1).1
  have mF : Mv P h (K3.set (h.length + 1) (.cells [str (ckS c), .slice none 0 0, pt b, str []] 0 false)) := (mE.trans m3).upd (by omega) _
  have u0 : (K3.set (h.length + 1) (.cells [str (ckS c), .slice none 0 0, pt b, str []] 0 false))[h.length]? = some (.cells z4 0 false) := by rw [List.getElem?_set_ne (by omega)]; exact t0
  have u1 : (K3.set (h.length + 1) (.cells [str (ckS c), .slice none 0 0, pt b, str []] 0 false))[h.length + 1]? = some (.cells [str (ckS c), .slice none 0 0, pt b, str []] 0 false) := List.getElem?_set_self l3
  cases hx : zkl P.en 32 (P.L.drop k) with
  | bad ec ea =>
    rw [hx] at x3
    obtain ⟨hc, ⟨k3, e3⟩, _, _⟩ := x3
    have eF : Rd P (K3.set (h.length + 1) (.cells [str (ckS c), .slice none 0 0, pt b, str []] 0 false)) k3 0 ec ea := e.upd e3 (by omega) _
    have hR : ze3 P.en c (P.L.drop k) = .bad ec ea := by unfold ze3; rw [hx]
    refine ⟨b, K3, k3, ec, ea, q3, t1, eF, u0, u1, .inl ⟨hc, fun v => e.finS (e.upd eF (Nat.le_refl _) _) (mF.upd (Nat.le_refl _) _) v (.inr hc), ?_⟩⟩
    rw [hR]
    exact ⟨_, rfl, rfl, hc, ⟨k3, e.upd eF (Nat.le_refl _) _⟩, mF.upd (Nat.le_refl _) _⟩
  | ok y r =>
    rw [hx] at x3
    obtain ⟨k3, rfl, e3, tr, _⟩ := x3
    have hsz := zf1 _ _ _ _ _ hx
    simp only [List.length_drop] at hsz
    have eF : Rd P (K3.set (h.length + 1) (.cells [str (ckS c), .slice none 0 0, pt b, str []] 0 false)) k3 0 0 0 := e.upd e3 (by omega) _
    obtain ⟨K5, q5, e5, m5⟩ := zhx (eF.more [.cells [str wAs] 0 false]) (m := wAs) (by simp [wAs]) (zlk _ wAs)
    have m5' := (Mv.add P (K3.set (h.length + 1) (.cells [str (ckS c), .slice none 0 0, pt b, str []] 0 false)) [.cells [str wAs] 0 false]).trans m5
    have s0 := m5'.keep _ _ u0 (by omega) (by omega)
    have s1 := m5'.keep _ _ u1 (by omega) (by omega)
    have hR := ya6 (c := c) hx
    have tr5 : ∀ G, Mv P K5 G → ∀ l l', TreeP ((G.set (h.length + 1) (.cells l 0 false)).set h.length (.cells l' 0 false)) (Iv h.length ((G.set (h.length + 1) (.cells l 0 false)).set h.length (.cells l' 0 false)).length) (pt b) y := fun G mG l l' =>
      (tr.keep fun z o hz ho => by
        have := hz.1
        rw [List.getElem?_set_ne (by omega), List.getElem?_set_ne (by omega)]
        exact mG.keep z o (m5'.keep z o (by rw [List.getElem?_set_ne (by omega)]; exact ho) (by omega) (by omega)) (by omega) (by omega)).weak fun z hz => ⟨by have := hz.1; omega, by have := hz.2; have h5 := m5'.le; have := mG.le; rw [List.length_set] at h5; rw [List.length_set, List.length_set]; omega⟩
    simp only [wAs, List.length_set] at q5
    refine ⟨b, K3, k3, 0, 0, q3, t1, eF, u0, u1, .inr ⟨rfl, K5, q5, s0, s1, ?_⟩⟩
    rw [hR]
    cases ka : (keyT (y3 P k3) == wAs)
    · rw [ka, if_neg Bool.false_ne_true] at e5
      rw [if_neg Bool.false_ne_true]
      refine .inl ⟨rfl, fun v => e.finS (e.upd e5 (Nat.le_refl _) _) ((mF.trans m5').upd (Nat.le_refl _) _) v (.inl (by omega)), _, k3, rfl, rfl, e.upd e5 (Nat.le_refl _) _, ⟨pt b, rfl, ?_⟩, (mF.trans m5').upd (Nat.le_refl _) _⟩
      have := tr5 K5 (Mv.refl P K5) [str (ckS c), .slice none 0 0, pt b, str []] [str (ckS c), .slice none 0 0, pt b, str []]
      rwa [yb6 s1] at this
    · rw [ka, if_pos rfl] at e5
      rw [if_pos rfl]
      obtain ⟨w, p, K6, q6, x6, m6⟩ := zzh e5
      have s0' := m6.keep _ _ s0 (by omega) (by omega)
      have s1' := m6.keep _ _ s1 (by omega) (by omega)
      have mG := (((mF.trans m5').trans m6).upd (b := h.length + 1) (by omega) (.cells [str (ckS c), .slice none 0 0, pt b, str w] 0 false)).upd (Nat.le_refl _) (.cells [str (ckS c), .slice none 0 0, pt b, str w] 0 false)
      cases hn : zbn (y3 P (k3 + 1))
      · rw [hn, if_neg Bool.false_ne_true] at x6
        rw [if_neg Bool.false_ne_true]
        have eG : Rd P ((K6.set (h.length + 1) (.cells [str (ckS c), .slice none 0 0, pt b, str w] 0 false)).set h.length (.cells [str (ckS c), .slice none 0 0, pt b, str w] 0 false)) _ 0 _ _ := e.upd (e.upd x6 (by omega) _) (Nat.le_refl _) _
        exact .inr ⟨rfl, w, p, K6, q6, s1', s0', fun v => e.finS eG mG v (.inr (fj P _)), _, rfl, rfl, fj P _, ⟨_, eG⟩, mG⟩
      · rw [hn, if_pos rfl] at x6
        rw [if_pos rfl]
        obtain ⟨rfl, rfl, x6⟩ := x6
        have eG : Rd P ((K6.set (h.length + 1) (.cells [str (ckS c), .slice none 0 0, pt b, str (y3 P (k3 + 1)).text] 0 false)).set h.length (.cells [str (ckS c), .slice none 0 0, pt b, str (y3 P (k3 + 1)).text] 0 false)) _ 0 _ _ := e.upd (e.upd x6 (by omega) _) (Nat.le_refl _) _
        exact .inr ⟨rfl, _, _, K6, q6, s1', s0', fun v => e.finS eG mG v (.inl (by omega)), _, _, rfl, rfl, eG, ⟨pt b, rfl, tr5 K6 m6 _ _⟩, mG⟩
set_option maxHeartbeats 8000000 in
theorem zst {P : RP} {h : Heap} {i : Nat} (e : Rd P h i 0 0 0) (hi : i < P.L.length) : ∃ v h', DF FF gt [pt P.r] h = some (v, h') ∧ StR P h v h' (zjr P.en (P.L.drop i)) := by
  refine wx ze7 ?_
  have lr := e.lr; have lc := e.lc; have hL := P.len
  obtain ⟨R, hR⟩ : ∃ R, R = zjr P.en (P.L.drop i) := ⟨_, rfl⟩
  rw [← hR]
  rw [gz hi, zjr] at hR
  have e0 := e.more [.cells z4 0 false, .cells z4 0 false]
  have m0 : Mv P h (h ++ [.cells z4 0 false, .cells z4 0 false]) := Mv.add P h _
  obtain ⟨H0, hH0⟩ : ∃ H0, H0 = h ++ [AObj.cells z4 0 false, .cells z4 0 false] := ⟨_, rfl⟩
  have o1 : H0[h.length]? = some (.cells z4 0 false) := by rw [hH0]; simp
  have o2 : H0[h.length + 1]? = some (.cells z4 0 false) := by rw [hH0]; simp
  have l2 : H0.length = h.length + 2 := by rw [hH0]; simp
  rw [← hH0] at e0 m0
  have hz : H0 = h ++ [AObj.cells [str [], .slice none 0 0, .pointer none, str []] 0 false, .cells [str [], .slice none 0 0, .pointer none, str []] 0 false] := hH0
  obtain ⟨K1, q1, e1, m1⟩ := zhx (e0.more [.cells [str wLet] 0 false]) (m := wLet) (by simp [wLet]) (zlk H0 wLet)
  have m1' : Mv P H0 K1 := (Mv.add P H0 _).trans m1
  have p1 : ∀ K, Mv P H0 K → K[h.length]? = some (.cells z4 0 false) := fun K m => m.keep _ _ o1 (by omega) (by omega)
  have p2 : ∀ K, Mv P H0 K → K[h.length + 1]? = some (.cells z4 0 false) := fun K m => m.keep _ _ o2 (by omega) (by omega)
  simp only [wLet] at q1
  cases kl : (keyT (y3 P i) == wLet)
  · rw [kl, if_neg Bool.false_ne_true] at e1 hR
    rw [show (keyT (y3 P i) == [108, 101, 116]) = false from kl] at q1
    obtain ⟨K2, q2, e2, m2⟩ := zhx (e1.more [.cells [str pq] 0 false]) (m := pq) (by simp [pq]) (zlk K1 pq)
    have m2' : Mv P H0 K2 := (m1'.trans (Mv.add P K1 _)).trans m2
    simp only [pq] at q2
    cases kacyclic : (keyT (y3 P i) == pq)
    rotate_left
    · rw [kacyclic, if_pos rfl] at e2 hR
      rw [show (keyT (y3 P i) == [97, 99, 121, 99, 108, 105, 99]) = true from kacyclic] at q2
      have oK := p2 K2 m2'
      have lzK := (List.getElem?_eq_some_iff.1 oK).1
      obtain ⟨E, hE⟩ : ∃ E, E = K2.set (h.length + 1) (.cells [str (ckS .acyclic), .slice none 0 0, nilP, str []] 0 false) := ⟨_, rfl⟩
      have wE : Heap.write1 K2 ⟨h.length + 1, 0, some 0⟩ (str [97, 99, 121, 99, 108, 105, 99]) = some E := by rw [b9 oK (by simp [z4]), hE]; rfl
      have eE : Rd P E (i + 1) 0 0 0 := by rw [hE]; exact e.upd e2 (by omega) _
      have mE : Mv P h E := by rw [hE]; exact (m0.trans m2').upd (by omega) _
      have zE : E[h.length]? = some (.cells z4 0 false) := by rw [hE, List.getElem?_set_ne (by omega)]; exact p1 K2 m2'
      have uE : E[h.length + 1]? = some (.cells [str (ckS .acyclic), .slice none 0 0, nilP, str []] 0 false) := by rw [hE, List.getElem?_set_self lzK]
      obtain ⟨b, K3, k3, x, a, c1, c2, c3, c4, c5, c6⟩ := zhj e eE mE zE uE (by omega)
      have wF : Heap.write1 K3 ⟨h.length + 1, 2, some 0⟩ (pt b) = some (K3.set (h.length + 1) (.cells [str (ckS .acyclic), .slice none 0 0, pt b, str []] 0 false)) := by rw [b9 c2 (by simp)]; rfl
      rw [hR]
      rcases c6 with ⟨hx, f1, f2⟩ | ⟨rfl, K5, d1, d2, d3, ⟨ka, f1, f2⟩ | ⟨ka, w, p, K6, g1, g2, g3, f1, f2⟩⟩
      · have rd3 : Heap.read (K3.set (h.length + 1) (.cells [str (ckS .acyclic), .slice none 0 0, pt b, str []] 0 false)) ⟨h.length + 1, 0, some 0⟩ 4 = some [str (ckS .acyclic), .slice none 0 0, pt b, str []] := zjt c5 (by simp)
        have wr5 : Heap.write (K3.set (h.length + 1) (.cells [str (ckS .acyclic), .slice none 0 0, pt b, str []] 0 false)) ⟨h.length, 0, some 0⟩ [str (ckS .acyclic), .slice none 0 0, pt b, str []] = some ((K3.set (h.length + 1) (.cells [str (ckS .acyclic), .slice none 0 0, pt b, str []] 0 false)).set h.length (.cells [str (ckS .acyclic), .slice none 0 0, pt b, str []] 0 false)) := zce c4 (by simp [z4])
        have rd4 : Heap.read ((K3.set (h.length + 1) (.cells [str (ckS .acyclic), .slice none 0 0, pt b, str []] 0 false)).set h.length (.cells [str (ckS .acyclic), .slice none 0 0, pt b, str []] 0 false)) ⟨h.length, 0, some 0⟩ 4 = some [str (ckS .acyclic), .slice none 0 0, pt b, str []] := fp (List.getElem?_eq_some_iff.1 c4).1 (by simp)
        simp only [xu, ya, zt, xc, ym, zb, zz, zw, yb, zm, yi, zc, zp, vw, zo, zf, ze, zd, List.set_cons_succ, List.set_cons_zero, O_mv, y0, xi, yg, ye, List.map_cons, List.map_nil, zx, zk, xt, y5, vf, w7, yd, z8, xe, xf, yx, Nat.lt_add_one, List.cons_append, List.nil_append, List.length_cons, List.length_nil, Nat.reduceAdd, Nat.reduceSub, Nat.zero_add, zn, yc, zy, za, zi, slc, yp, xa, z7, zl, xb, qw, yr, z6, zq, zj, zh, zg, List.append_assoc, List.length_append, List.append_nil, Nat.add_zero, Option.map_some, List.getElem?_cons_zero, eq_self, yj, wj, Option.map_some, wk, zas, jx, kf, ← hz, e0.r0, q1,  e1.r0, q2, wE, c1, wF, fe c3 hx, rd3, wr5, rd4, f1]
        exact f2
      · rw [ka] at d1
        have rd3 : Heap.read K5 ⟨h.length + 1, 0, some 0⟩ 4 = some [str (ckS .acyclic), .slice none 0 0, pt b, str []] := zjt d3 (by simp)
        have wr5 : Heap.write K5 ⟨h.length, 0, some 0⟩ [str (ckS .acyclic), .slice none 0 0, pt b, str []] = some (K5.set h.length (.cells [str (ckS .acyclic), .slice none 0 0, pt b, str []] 0 false)) := zce d2 (by simp [z4])
        have rd4 : Heap.read (K5.set h.length (.cells [str (ckS .acyclic), .slice none 0 0, pt b, str []] 0 false)) ⟨h.length, 0, some 0⟩ 4 = some [str (ckS .acyclic), .slice none 0 0, pt b, str []] := fp (List.getElem?_eq_some_iff.1 d2).1 (by simp)
        simp only [xu, ya, zt, xc, ym, zb, zz, zw, yb, zm, yi, zc, zp, xx, zo, zf, ze, zd, List.set_cons_succ, List.set_cons_zero, O_mv, y0, xi, yg, ye, List.map_cons, List.map_nil, zx, zk, xt, y5, vf, w7, yd, z8, xe, xf, yx, Nat.lt_add_one, List.cons_append, List.nil_append, List.length_cons, List.length_nil, Nat.reduceAdd, Nat.reduceSub, Nat.zero_add, zn, yc, zy, za, zi, slc, yp, xa, z7, zl, xb, qw, yr, z6, zq, zj, zh, zg, List.append_assoc, List.length_append, List.append_nil, Nat.add_zero, Option.map_some, List.getElem?_cons_zero, eq_self, yj, wj, Option.map_some, wk, zas, jx, kf, ← hz, e0.r0, q1,  e1.r0, q2, wE, c1, wF, ok_0 c3, c3.r0, List.length_set, d1, rd3, wr5, rd4, f1]
        exact f2
      · rw [ka] at d1
        have wG : Heap.write1 K6 ⟨h.length + 1, 3, some 0⟩ (str w) = some (K6.set (h.length + 1) (.cells [str (ckS .acyclic), .slice none 0 0, pt b, str w] 0 false)) := by rw [b9 g2 (by simp)]; rfl
        have rd3 : Heap.read (K6.set (h.length + 1) (.cells [str (ckS .acyclic), .slice none 0 0, pt b, str w] 0 false)) ⟨h.length + 1, 0, some 0⟩ 4 = some [str (ckS .acyclic), .slice none 0 0, pt b, str w] := fp (List.getElem?_eq_some_iff.1 g2).1 (by simp)
        have g3' : (K6.set (h.length + 1) (.cells [str (ckS .acyclic), .slice none 0 0, pt b, str w] 0 false))[h.length]? = some (.cells z4 0 false) := by rw [List.getElem?_set_ne (by omega)]; exact g3
        have wr5 : Heap.write (K6.set (h.length + 1) (.cells [str (ckS .acyclic), .slice none 0 0, pt b, str w] 0 false)) ⟨h.length, 0, some 0⟩ [str (ckS .acyclic), .slice none 0 0, pt b, str w] = some ((K6.set (h.length + 1) (.cells [str (ckS .acyclic), .slice none 0 0, pt b, str w] 0 false)).set h.length (.cells [str (ckS .acyclic), .slice none 0 0, pt b, str w] 0 false)) := zce g3' (by simp [z4])
        have rd4 : Heap.read ((K6.set (h.length + 1) (.cells [str (ckS .acyclic), .slice none 0 0, pt b, str w] 0 false)).set h.length (.cells [str (ckS .acyclic), .slice none 0 0, pt b, str w] 0 false)) ⟨h.length, 0, some 0⟩ 4 = some [str (ckS .acyclic), .slice none 0 0, pt b, str w] := fp (List.getElem?_eq_some_iff.1 g3').1 (by simp)
        simp only [xu, ya, zt, xc, zb, zz, zw, yb, zm, yi, zc, zp, xx, zo, zf, ze, zd, List.set_cons_succ, List.set_cons_zero, O_mv, y0, xi, yg, ye, List.map_cons, List.map_nil, zx, zk, xt, y5, vf, w7, yd, z8, xe, xf, yx, Nat.lt_add_one, List.cons_append, List.nil_append, List.length_cons, List.length_nil, Nat.reduceAdd, Nat.reduceSub, Nat.zero_add, zn, yc, zy, za, zi, slc, yp, xa, z7, xj, y8, zl, xb, qw, yr, z6, zq, zj, zh, zg, List.append_assoc, List.length_append, List.append_nil, Nat.add_zero, Option.map_some, List.getElem?_cons_zero, List.getElem?_cons_succ, eq_self, yj, wj, Option.map_some, wk, zas, jx, kf, ← hz, e0.r0, q1,  e1.r0, q2, wE, c1, wF, ok_0 c3, c3.r0, List.length_set, d1, g1, wG, rd3, wr5, rd4, f1]
        exact f2
    rw [kacyclic, if_neg Bool.false_ne_true] at e2 hR
    rw [show (keyT (y3 P i) == [97, 99, 121, 99, 108, 105, 99]) = false from kacyclic] at q2
    obtain ⟨K3, q3, e3, m3⟩ := zhx (e2.more [.cells [str wIrr] 0 false]) (m := wIrr) (by simp [wIrr]) (zlk K2 wIrr)
    have m3' : Mv P H0 K3 := (m2'.trans (Mv.add P K2 _)).trans m3
    simp only [wIrr] at q3
    cases kirr : (keyT (y3 P i) == wIrr)
    rotate_left
    · rw [kirr, if_pos rfl] at e3 hR
      rw [show (keyT (y3 P i) == [105, 114, 114, 101, 102, 108, 101, 120, 105, 118, 101]) = true from kirr] at q3
      have oK := p2 K3 m3'
      have lzK := (List.getElem?_eq_some_iff.1 oK).1
      obtain ⟨E, hE⟩ : ∃ E, E = K3.set (h.length + 1) (.cells [str (ckS .irr), .slice none 0 0, nilP, str []] 0 false) := ⟨_, rfl⟩
      have wE : Heap.write1 K3 ⟨h.length + 1, 0, some 0⟩ (str [105, 114, 114, 101, 102, 108, 101, 120, 105, 118, 101]) = some E := by rw [b9 oK (by simp [z4]), hE]; rfl
      have eE : Rd P E (i + 1) 0 0 0 := by rw [hE]; exact e.upd e3 (by omega) _
      have mE : Mv P h E := by rw [hE]; exact (m0.trans m3').upd (by omega) _
      have zE : E[h.length]? = some (.cells z4 0 false) := by rw [hE, List.getElem?_set_ne (by omega)]; exact p1 K3 m3'
      have uE : E[h.length + 1]? = some (.cells [str (ckS .irr), .slice none 0 0, nilP, str []] 0 false) := by rw [hE, List.getElem?_set_self lzK]
      obtain ⟨b, K3, k3, x, a, c1, c2, c3, c4, c5, c6⟩ := zhj e eE mE zE uE (by omega)
      have wF : Heap.write1 K3 ⟨h.length + 1, 2, some 0⟩ (pt b) = some (K3.set (h.length + 1) (.cells [str (ckS .irr), .slice none 0 0, pt b, str []] 0 false)) := by rw [b9 c2 (by simp)]; rfl
      rw [hR]
      rcases c6 with ⟨hx, f1, f2⟩ | ⟨rfl, K5, d1, d2, d3, ⟨ka, f1, f2⟩ | ⟨ka, w, p, K6, g1, g2, g3, f1, f2⟩⟩
      · have rd3 : Heap.read (K3.set (h.length + 1) (.cells [str (ckS .irr), .slice none 0 0, pt b, str []] 0 false)) ⟨h.length + 1, 0, some 0⟩ 4 = some [str (ckS .irr), .slice none 0 0, pt b, str []] := zjt c5 (by simp)
        have wr5 : Heap.write (K3.set (h.length + 1) (.cells [str (ckS .irr), .slice none 0 0, pt b, str []] 0 false)) ⟨h.length, 0, some 0⟩ [str (ckS .irr), .slice none 0 0, pt b, str []] = some ((K3.set (h.length + 1) (.cells [str (ckS .irr), .slice none 0 0, pt b, str []] 0 false)).set h.length (.cells [str (ckS .irr), .slice none 0 0, pt b, str []] 0 false)) := zce c4 (by simp [z4])
        have rd4 : Heap.read ((K3.set (h.length + 1) (.cells [str (ckS .irr), .slice none 0 0, pt b, str []] 0 false)).set h.length (.cells [str (ckS .irr), .slice none 0 0, pt b, str []] 0 false)) ⟨h.length, 0, some 0⟩ 4 = some [str (ckS .irr), .slice none 0 0, pt b, str []] := fp (List.getElem?_eq_some_iff.1 c4).1 (by simp)
        simp only [xu, ya, zt, xc, ym, zb, zz, zw, yb, zm, yi, zc, zp, vw, zo, zf, ze, zd, List.set_cons_succ, List.set_cons_zero, O_mv, y0, xi, yg, ye, List.map_cons, List.map_nil, zx, zk, xt, y5, vf, w7, yd, z8, xe, xf, yx, Nat.lt_add_one, List.cons_append, List.nil_append, List.length_cons, List.length_nil, Nat.reduceAdd, Nat.reduceSub, Nat.zero_add, zn, yc, zy, za, zi, slc, yp, xa, z7, zl, xb, qw, yr, z6, zq, zj, zh, zg, List.append_assoc, List.length_append, List.append_nil, Nat.add_zero, Option.map_some, List.getElem?_cons_zero, eq_self, yj, wj, Option.map_some, wk, zas, jx, kf, ← hz, e0.r0, q1,  e1.r0, q2, e2.r0, q3, wE, c1, wF, fe c3 hx, rd3, wr5, rd4, f1]
        exact f2
      · rw [ka] at d1
        have rd3 : Heap.read K5 ⟨h.length + 1, 0, some 0⟩ 4 = some [str (ckS .irr), .slice none 0 0, pt b, str []] := zjt d3 (by simp)
        have wr5 : Heap.write K5 ⟨h.length, 0, some 0⟩ [str (ckS .irr), .slice none 0 0, pt b, str []] = some (K5.set h.length (.cells [str (ckS .irr), .slice none 0 0, pt b, str []] 0 false)) := zce d2 (by simp [z4])
        have rd4 : Heap.read (K5.set h.length (.cells [str (ckS .irr), .slice none 0 0, pt b, str []] 0 false)) ⟨h.length, 0, some 0⟩ 4 = some [str (ckS .irr), .slice none 0 0, pt b, str []] := fp (List.getElem?_eq_some_iff.1 d2).1 (by simp)
        simp only [xu, ya, zt, xc, ym, zb, zz, zw, yb, zm, yi, zc, zp, xx, zo, zf, ze, zd, List.set_cons_succ, List.set_cons_zero, O_mv, y0, xi, yg, ye, List.map_cons, List.map_nil, zx, zk, xt, y5, vf, w7, yd, z8, xe, xf, yx, Nat.lt_add_one, List.cons_append, List.nil_append, List.length_cons, List.length_nil, Nat.reduceAdd, Nat.reduceSub, Nat.zero_add, zn, yc, zy, za, zi, slc, yp, xa, z7, zl, xb, qw, yr, z6, zq, zj, zh, zg, List.append_assoc, List.length_append, List.append_nil, Nat.add_zero, Option.map_some, List.getElem?_cons_zero, eq_self, yj, wj, Option.map_some, wk, zas, jx, kf, ← hz, e0.r0, q1,  e1.r0, q2, e2.r0, q3, wE, c1, wF, ok_0 c3, c3.r0, List.length_set, d1, rd3, wr5, rd4, f1]
        exact f2
      · rw [ka] at d1
        have wG : Heap.write1 K6 ⟨h.length + 1, 3, some 0⟩ (str w) = some (K6.set (h.length + 1) (.cells [str (ckS .irr), .slice none 0 0, pt b, str w] 0 false)) := by rw [b9 g2 (by simp)]; rfl
        have rd3 : Heap.read (K6.set (h.length + 1) (.cells [str (ckS .irr), .slice none 0 0, pt b, str w] 0 false)) ⟨h.length + 1, 0, some 0⟩ 4 = some [str (ckS .irr), .slice none 0 0, pt b, str w] := fp (List.getElem?_eq_some_iff.1 g2).1 (by simp)
        have g3' : (K6.set (h.length + 1) (.cells [str (ckS .irr), .slice none 0 0, pt b, str w] 0 false))[h.length]? = some (.cells z4 0 false) := by rw [List.getElem?_set_ne (by omega)]; exact g3
        have wr5 : Heap.write (K6.set (h.length + 1) (.cells [str (ckS .irr), .slice none 0 0, pt b, str w] 0 false)) ⟨h.length, 0, some 0⟩ [str (ckS .irr), .slice none 0 0, pt b, str w] = some ((K6.set (h.length + 1) (.cells [str (ckS .irr), .slice none 0 0, pt b, str w] 0 false)).set h.length (.cells [str (ckS .irr), .slice none 0 0, pt b, str w] 0 false)) := zce g3' (by simp [z4])
        have rd4 : Heap.read ((K6.set (h.length + 1) (.cells [str (ckS .irr), .slice none 0 0, pt b, str w] 0 false)).set h.length (.cells [str (ckS .irr), .slice none 0 0, pt b, str w] 0 false)) ⟨h.length, 0, some 0⟩ 4 = some [str (ckS .irr), .slice none 0 0, pt b, str w] := fp (List.getElem?_eq_some_iff.1 g3').1 (by simp)
        simp only [xu, ya, zt, xc, zb, zz, zw, yb, zm, yi, zc, zp, xx, zo, zf, ze, zd, List.set_cons_succ, List.set_cons_zero, O_mv, y0, xi, yg, ye, List.map_cons, List.map_nil, zx, zk, xt, y5, vf, w7, yd, z8, xe, xf, yx, Nat.lt_add_one, List.cons_append, List.nil_append, List.length_cons, List.length_nil, Nat.reduceAdd, Nat.reduceSub, Nat.zero_add, zn, yc, zy, za, zi, slc, yp, xa, z7, xj, y8, zl, xb, qw, yr, z6, zq, zj, zh, zg, List.append_assoc, List.length_append, List.append_nil, Nat.add_zero, Option.map_some, List.getElem?_cons_zero, List.getElem?_cons_succ, eq_self, yj, wj, Option.map_some, wk, zas, jx, kf, ← hz, e0.r0, q1,  e1.r0, q2, e2.r0, q3, wE, c1, wF, ok_0 c3, c3.r0, List.length_set, d1, g1, wG, rd3, wr5, rd4, f1]
        exact f2
    rw [kirr, if_neg Bool.false_ne_true] at e3 hR
    rw [show (keyT (y3 P i) == [105, 114, 114, 101, 102, 108, 101, 120, 105, 118, 101]) = false from kirr] at q3
    obtain ⟨K4, q4, e4, m4⟩ := zhx (e3.more [.cells [str zdt] 0 false]) (m := zdt) (by simp [zdt]) (zlk K3 zdt)
    have m4' : Mv P H0 K4 := (m3'.trans (Mv.add P K3 _)).trans m4
    simp only [zdt] at q4
    cases kempty : (keyT (y3 P i) == zdt)
    rotate_left
    · rw [kempty, if_pos rfl] at e4 hR
      rw [show (keyT (y3 P i) == [101, 109, 112, 116, 121]) = true from kempty] at q4
      have oK := p2 K4 m4'
      have lzK := (List.getElem?_eq_some_iff.1 oK).1
      obtain ⟨E, hE⟩ : ∃ E, E = K4.set (h.length + 1) (.cells [str (ckS .empty), .slice none 0 0, nilP, str []] 0 false) := ⟨_, rfl⟩
      have wE : Heap.write1 K4 ⟨h.length + 1, 0, some 0⟩ (str [101, 109, 112, 116, 121]) = some E := by rw [b9 oK (by simp [z4]), hE]; rfl
      have eE : Rd P E (i + 1) 0 0 0 := by rw [hE]; exact e.upd e4 (by omega) _
      have mE : Mv P h E := by rw [hE]; exact (m0.trans m4').upd (by omega) _
      have zE : E[h.length]? = some (.cells z4 0 false) := by rw [hE, List.getElem?_set_ne (by omega)]; exact p1 K4 m4'
      have uE : E[h.length + 1]? = some (.cells [str (ckS .empty), .slice none 0 0, nilP, str []] 0 false) := by rw [hE, List.getElem?_set_self lzK]
      obtain ⟨b, K3, k3, x, a, c1, c2, c3, c4, c5, c6⟩ := zhj e eE mE zE uE (by omega)
      have wF : Heap.write1 K3 ⟨h.length + 1, 2, some 0⟩ (pt b) = some (K3.set (h.length + 1) (.cells [str (ckS .empty), .slice none 0 0, pt b, str []] 0 false)) := by rw [b9 c2 (by simp)]; rfl
      rw [hR]
      rcases c6 with ⟨hx, f1, f2⟩ | ⟨rfl, K5, d1, d2, d3, ⟨ka, f1, f2⟩ | ⟨ka, w, p, K6, g1, g2, g3, f1, f2⟩⟩
      · have rd3 : Heap.read (K3.set (h.length + 1) (.cells [str (ckS .empty), .slice none 0 0, pt b, str []] 0 false)) ⟨h.length + 1, 0, some 0⟩ 4 = some [str (ckS .empty), .slice none 0 0, pt b, str []] := zjt c5 (by simp)
        have wr5 : Heap.write (K3.set (h.length + 1) (.cells [str (ckS .empty), .slice none 0 0, pt b, str []] 0 false)) ⟨h.length, 0, some 0⟩ [str (ckS .empty), .slice none 0 0, pt b, str []] = some ((K3.set (h.length + 1) (.cells [str (ckS .empty), .slice none 0 0, pt b, str []] 0 false)).set h.length (.cells [str (ckS .empty), .slice none 0 0, pt b, str []] 0 false)) := zce c4 (by simp [z4])
        have rd4 : Heap.read ((K3.set (h.length + 1) (.cells [str (ckS .empty), .slice none 0 0, pt b, str []] 0 false)).set h.length (.cells [str (ckS .empty), .slice none 0 0, pt b, str []] 0 false)) ⟨h.length, 0, some 0⟩ 4 = some [str (ckS .empty), .slice none 0 0, pt b, str []] := fp (List.getElem?_eq_some_iff.1 c4).1 (by simp)
        simp only [xu, ya, zt, xc, ym, zb, zz, zw, yb, zm, yi, zc, zp, vw, zo, zf, ze, zd, List.set_cons_succ, List.set_cons_zero, O_mv, y0, xi, yg, ye, List.map_cons, List.map_nil, zx, zk, xt, y5, vf, w7, yd, z8, xe, xf, yx, Nat.lt_add_one, List.cons_append, List.nil_append, List.length_cons, List.length_nil, Nat.reduceAdd, Nat.reduceSub, Nat.zero_add, zn, yc, zy, za, zi, slc, yp, xa, z7, zl, xb, qw, yr, z6, zq, zj, zh, zg, List.append_assoc, List.length_append, List.append_nil, Nat.add_zero, Option.map_some, List.getElem?_cons_zero, eq_self, yj, wj, Option.map_some, wk, zas, jx, kf, ← hz, e0.r0, q1,  e1.r0, q2, e2.r0, q3, e3.r0, q4, wE, c1, wF, fe c3 hx, rd3, wr5, rd4, f1]
        exact f2
      · rw [ka] at d1
        have rd3 : Heap.read K5 ⟨h.length + 1, 0, some 0⟩ 4 = some [str (ckS .empty), .slice none 0 0, pt b, str []] := zjt d3 (by simp)
        have wr5 : Heap.write K5 ⟨h.length, 0, some 0⟩ [str (ckS .empty), .slice none 0 0, pt b, str []] = some (K5.set h.length (.cells [str (ckS .empty), .slice none 0 0, pt b, str []] 0 false)) := zce d2 (by simp [z4])
        have rd4 : Heap.read (K5.set h.length (.cells [str (ckS .empty), .slice none 0 0, pt b, str []] 0 false)) ⟨h.length, 0, some 0⟩ 4 = some [str (ckS .empty), .slice none 0 0, pt b, str []] := fp (List.getElem?_eq_some_iff.1 d2).1 (by simp)
        simp only [xu, ya, zt, xc, ym, zb, zz, zw, yb, zm, yi, zc, zp, xx, zo, zf, ze, zd, List.set_cons_succ, List.set_cons_zero, O_mv, y0, xi, yg, ye, List.map_cons, List.map_nil, zx, zk, xt, y5, vf, w7, yd, z8, xe, xf, yx, Nat.lt_add_one, List.cons_append, List.nil_append, List.length_cons, List.length_nil, Nat.reduceAdd, Nat.reduceSub, Nat.zero_add, zn, yc, zy, za, zi, slc, yp, xa, z7, zl, xb, qw, yr, z6, zq, zj, zh, zg, List.append_assoc, List.length_append, List.append_nil, Nat.add_zero, Option.map_some, List.getElem?_cons_zero, eq_self, yj, wj, Option.map_some, wk, zas, jx, kf, ← hz, e0.r0, q1,  e1.r0, q2, e2.r0, q3, e3.r0, q4, wE, c1, wF, ok_0 c3, c3.r0, List.length_set, d1, rd3, wr5, rd4, f1]
        exact f2
      · rw [ka] at d1
        have wG : Heap.write1 K6 ⟨h.length + 1, 3, some 0⟩ (str w) = some (K6.set (h.length + 1) (.cells [str (ckS .empty), .slice none 0 0, pt b, str w] 0 false)) := by rw [b9 g2 (by simp)]; rfl
        have rd3 : Heap.read (K6.set (h.length + 1) (.cells [str (ckS .empty), .slice none 0 0, pt b, str w] 0 false)) ⟨h.length + 1, 0, some 0⟩ 4 = some [str (ckS .empty), .slice none 0 0, pt b, str w] := fp (List.getElem?_eq_some_iff.1 g2).1 (by simp)
        have g3' : (K6.set (h.length + 1) (.cells [str (ckS .empty), .slice none 0 0, pt b, str w] 0 false))[h.length]? = some (.cells z4 0 false) := by rw [List.getElem?_set_ne (by omega)]; exact g3
        have wr5 : Heap.write (K6.set (h.length + 1) (.cells [str (ckS .empty), .slice none 0 0, pt b, str w] 0 false)) ⟨h.length, 0, some 0⟩ [str (ckS .empty), .slice none 0 0, pt b, str w] = some ((K6.set (h.length + 1) (.cells [str (ckS .empty), .slice none 0 0, pt b, str w] 0 false)).set h.length (.cells [str (ckS .empty), .slice none 0 0, pt b, str w] 0 false)) := zce g3' (by simp [z4])
        have rd4 : Heap.read ((K6.set (h.length + 1) (.cells [str (ckS .empty), .slice none 0 0, pt b, str w] 0 false)).set h.length (.cells [str (ckS .empty), .slice none 0 0, pt b, str w] 0 false)) ⟨h.length, 0, some 0⟩ 4 = some [str (ckS .empty), .slice none 0 0, pt b, str w] := fp (List.getElem?_eq_some_iff.1 g3').1 (by simp)
        simp only [xu, ya, zt, xc, zb, zz, zw, yb, zm, yi, zc, zp, xx, zo, zf, ze, zd, List.set_cons_succ, List.set_cons_zero, O_mv, y0, xi, yg, ye, List.map_cons, List.map_nil, zx, zk, xt, y5, vf, w7, yd, z8, xe, xf, yx, Nat.lt_add_one, List.cons_append, List.nil_append, List.length_cons, List.length_nil, Nat.reduceAdd, Nat.reduceSub, Nat.zero_add, zn, yc, zy, za, zi, slc, yp, xa, z7, xj, y8, zl, xb, qw, yr, z6, zq, zj, zh, zg, List.append_assoc, List.length_append, List.append_nil, Nat.add_zero, Option.map_some, List.getElem?_cons_zero, List.getElem?_cons_succ, eq_self, yj, wj, Option.map_some, wk, zas, jx, kf, ← hz, e0.r0, q1,  e1.r0, q2, e2.r0, q3, e3.r0, q4, wE, c1, wF, ok_0 c3, c3.r0, List.length_set, d1, g1, wG, rd3, wr5, rd4, f1]
        exact f2
    rw [kempty, if_neg Bool.false_ne_true] at e4 hR
    rw [show (keyT (y3 P i) == [101, 109, 112, 116, 121]) = false from kempty] at q4
    obtain ⟨K5, q5, e5, m5⟩ := zfl e4
    have m5' := m4'.trans m5
    have z0 := p1 K5 m5'
    have z1 := p2 K5 m5'
    have hz4 : z4 = [str [], .slice none 0 0, .pointer none, str []] := rfl
    have rd3 : Heap.read K5 ⟨h.length + 1, 0, some 0⟩ 4 = some [str [], .slice none 0 0, .pointer none, str []] := zjt z1 (by simp [z4])
    have wr5 : Heap.write K5 ⟨h.length, 0, some 0⟩ [str [], .slice none 0 0, .pointer none, str []] = some (K5.set h.length (.cells z4 0 false)) := zce z0 (by simp [z4])
    have rd4 : Heap.read (K5.set h.length (.cells z4 0 false)) ⟨h.length, 0, some 0⟩ 4 = some [str [], .slice none 0 0, .pointer none, str []] := fp (List.getElem?_eq_some_iff.1 z0).1 (by simp [z4])
    have f := fun v => e.finS (e.upd e5 (Nat.le_refl _) (.cells z4 0 false)) ((m0.trans m5').upd (Nat.le_refl _) _) v (.inr (fj P i))
    simp only [xu, ya, zt, xc, zb, zw, yb, zm, zc, zp, zo, zf, ze, zd, List.set_cons_succ, List.set_cons_zero, O_mv, yg, ye, List.map_cons, List.map_nil, zx, zk, xt, y5, vf, w7, yd, z8, xe, xf, yx, Nat.lt_add_one, List.cons_append, List.nil_append, List.length_cons, List.length_nil, Nat.reduceAdd, Nat.reduceSub, Nat.zero_add, zn, yc, zy, za, y9, wd, slc, yp, xa, z7, zl, yr, z6, zq, zj, zh, zg, List.append_assoc, List.length_append, List.append_nil, Nat.add_zero, Option.map_some, List.getElem?_cons_zero, eq_self, yj, Option.map_some, wk, zas, jx, kf, ← hz, e0.r0, q1,  e1.r0, q2, e2.r0, q3, e3.r0, q4, q5, rd3, wr5, rd4, f]
    rw [hR]
    have hc : zai P i = 22 := by unfold zai; rw [if_pos hi]
    have ha : za1 P i = (y3 P i).at_ := by unfold za1; rw [if_pos hi]
    rw [hc, ha] at e5
    exact ⟨_, rfl, by simp, by omega, ⟨i, e.upd e5 (Nat.le_refl _) _⟩, (m0.trans m5').upd (Nat.le_refl _) _⟩
  · rw [kl, if_pos rfl] at e1 hR
    rw [show (keyT (y3 P i) == [108, 101, 116]) = true from kl] at q1
    have hRk : R = if keyT (y3 P (i + 1)) == wRec then zon P.en true (P.L.drop (i + 1 + 1)) else zon P.en false (P.L.drop (i + 1)) := by
      rw [hR]
      by_cases hk : i + 1 < P.L.length
      · rw [gz hk]; rfl
      · rw [List.drop_eq_nil_of_le (by omega), j8 hk, zew]; rfl
    have oK1 := p2 K1 m1'
    have hlK1 := (List.getElem?_eq_some_iff.1 oK1).1
    have eK1 : Rd P (K1.set (h.length + 1) (.cells [str wLet, .slice none 0 0, nilP, str []] 0 false)) (i + 1) 0 0 0 := e.upd e1 (by omega) _
    have mK1 : Mv P h (K1.set (h.length + 1) (.cells [str wLet, .slice none 0 0, nilP, str []] 0 false)) := (m0.trans m1').upd (by omega) _
    have zE1 : (K1.set (h.length + 1) (.cells [str wLet, .slice none 0 0, nilP, str []] 0 false))[h.length]? = some (.cells z4 0 false) := by rw [List.getElem?_set_ne (by omega)]; exact p1 K1 m1'
    obtain ⟨E1, hE1⟩ : ∃ E1, E1 = K1.set (h.length + 1) (.cells [str wLet, .slice none 0 0, nilP, str []] 0 false) := ⟨_, rfl⟩
    have oE1 : E1[h.length + 1]? = some (.cells [str wLet, .slice none 0 0, nilP, str []] 0 false) := by rw [hE1, List.getElem?_set_self hlK1]
    rw [← hE1] at eK1 mK1 zE1
    obtain ⟨K2, q2, e2, m2⟩ := zhx (eK1.more [.cells [str wRec] 0 false]) (m := wRec) (by simp [wRec]) (zlk E1 wRec)
    have m2' : Mv P E1 K2 := (Mv.add P E1 _).trans m2
    have zK2 := m2'.keep _ _ zE1 (by omega) (by omega)
    have oK2 : K2[h.length + 1]? = some (.cells [str wLet, .slice none 0 0, nilP, str []] 0 false) := m2'.keep _ _ oE1 (by omega) (by omega)
    have hlK2 := (List.getElem?_eq_some_iff.1 oK2).1
    simp only [wRec] at q2
    have w1 : Heap.write1 K1 ⟨h.length + 1, 0, some 0⟩ (str [108, 101, 116]) = some E1 := by rw [b9 oK1 (by simp [z4]), hE1]; rfl
    have w2 : Heap.write1 K2 ⟨h.length + 1, 0, some 0⟩ (str [114, 101, 99]) = some (K2.set (h.length + 1) (.cells [str wRec, .slice none 0 0, nilP, str []] 0 false)) := by rw [b9 oK2 (by simp)]; rfl
    cases kr : (keyT (y3 P (i + 1)) == wRec)
    all_goals rw [kr] at hRk e2; rw [show (keyT (y3 P (i + 1)) == [114, 101, 99]) = _ from kr] at q2
    all_goals first | rw [if_neg Bool.false_ne_true] at hRk e2 | rw [if_pos rfl] at hRk e2
    · have L0 := zo7 (h := h) false K2 (i + 1) e2 (mK1.trans m2') zK2 oK2 hRk
      simp only [xu, ya, zt, ym, zb, zz, zw, yb, zm, zc, zp, zo, zf, ze, zd, List.set_cons_succ, List.set_cons_zero, O_mv, yg, ye, List.map_cons, List.map_nil, zx, zk, vf, w7, yd, z8, xe, xf, yx, Nat.lt_add_one, List.cons_append, List.nil_append, List.length_cons, List.length_nil, Nat.reduceSub, Nat.zero_add, zn, yc, zy, za, slc, yp, xa, z7, zl, xb, zq, zj, zh, zg, List.append_assoc, List.length_append, List.append_nil, Nat.add_zero, List.getElem?_cons_zero, yj, wj, wk, ← hz, e0.r0, q1, w1, eK1.r0, q2]
      refine zi0 (LetI P h R false i) ?_ (P.L.length - (i + 1) + 1) _ ⟨K2, i + 1, by omega, junk rfl, L0⟩
      rintro m st ⟨K, k, hik, ⟨j, rfl⟩, s, vs, S, acc, rfl, eK, hz0, hz1, own, gs, hS, hb, mK, hacc, hg⟩
      obtain ⟨w, p, J1, J2, J3, b, a', n', c', J4, k3, x, a, r1, r2, r3, r4, r5, r6, r7, r8, r9, r10, r11, r12, r13⟩ := zqb e eK hz0 hz1 own gs hS hb mK hacc hg
      have lK := mK.le
      have lz := (List.getElem?_eq_some_iff.1 hz1).1
      have lJ1 := (List.getElem?_eq_some_iff.1 r2).1
      have lJ3 := (List.getElem?_eq_some_iff.1 r5).1
      have wr1 : Heap.write1 J1 ⟨K.length, 0, some 0⟩ (str w) = some (J1.set K.length (.cells [str w, .int .i64 0, nilP] 0 false)) := by rw [b9 r2 (by simp)]; rfl
      have wr2 : Heap.write1 (J1.set K.length (.cells [str w, .int .i64 0, nilP] 0 false)) ⟨K.length, 1, some 0⟩ (.int .i64 p) = some (J1.set K.length (.cells [str w, .int .i64 p, nilP] 0 false)) := by rw [zg3 lJ1 (by simp)]; rfl
      have wr3 : Heap.write1 J3 ⟨K.length, 2, some 0⟩ (pt b) = some (J3.set K.length (.cells [str w, .int .i64 p, pt b] 0 false)) := by rw [b9 r5 (by simp)]; rfl
      have rd1 : Heap.read1 (J3.set K.length (.cells [str w, .int .i64 p, pt b] 0 false)) ⟨h.length + 1, 1, some 0⟩ = some s := by rw [ybo (by simp; omega), x8 r6]; rfl
      have rd2 : Heap.read (J3.set K.length (.cells [str w, .int .i64 p, pt b] 0 false)) ⟨K.length, 0, some 0⟩ 3 = some [str w, .int .i64 p, pt b] := fp lJ3 (by simp)
      obtain ⟨E, hE⟩ : ∃ E, E = J4.set (h.length + 1) (.cells [str (kwOf false), .slice a' n' c', nilP, str []] 0 false) := ⟨_, rfl⟩
      have wr4 : Heap.write1 J4 ⟨h.length + 1, 1, some 0⟩ (.slice a' n' c') = some E := by rw [b9 r8 (by simp), hE]; rfl
      rw [← hE] at r9 r10 r11 r12 r13
      have row4 : ([str (kwOf false), .slice a' n' c', nilP, str []] : List Value).length = 4 := by simp
      rcases r13 with ⟨hx, hRb⟩ | ⟨rfl, rfl, hk3, S', g, g1, g2, g3, g4, g5⟩
      · have rd3 : Heap.read E ⟨h.length + 1, 0, some 0⟩ 4 = some [str (kwOf false), .slice a' n' c', nilP, str []] := zjt r12 (by simp)
        have wr5 : Heap.write E ⟨h.length, 0, some 0⟩ [str (kwOf false), .slice a' n' c', nilP, str []] = some (E.set h.length (.cells [str (kwOf false), .slice a' n' c', nilP, str []] 0 false)) := zce r11 (by simp [z4])
        have rd4 : Heap.read (E.set h.length (.cells [str (kwOf false), .slice a' n' c', nilP, str []] 0 false)) ⟨h.length, 0, some 0⟩ 4 = some [str (kwOf false), .slice a' n' c', nilP, str []] := fp (List.getElem?_eq_some_iff.1 r11).1 (by simp)
        simp only [ya, zt, xc, zb, zz, yb, zm, yi, zc, zp, wq, zo, zf, ze, zd, List.set_cons_succ, List.set_cons_zero, O_mv, y0, xi, yg, O_un, ye, List.map_cons, List.map_nil, zx, zk, xt, y5, vf, w7, yd, z8, xe, xf, qe, List.length_cons, List.length_nil, Nat.reduceAdd, Nat.zero_add, Bool.not_false, zn, yc, zy, za, y9, wd, zb6, slc, gu, yp, xa, z7, xj, y8, zl, xb, xz, fv, qw, yr, z6, List.append_nil, Nat.add_zero, Option.map_some, List.getElem?_cons_zero, List.getElem?_cons_succ, eq_self, wj, Option.map_some, zas, jx, kf, r1, wr1, wr2, r3, r4, wr3, rd1, rd2, zip, List.length_set, r7, wr4, fe r9 hx, rd3, wr5, rd4]
        have st := zyl e r9 r10 r12 hx hRb
        rw [e.finS (e.upd r9 (Nat.le_refl _) _) (r10.upd (Nat.le_refl _) _) _ (.inr hx)]
        exact st
      · obtain ⟨J5, q5, e5, m5⟩ := zhx (r9.more [.cells [str wAnd] 0 false]) (m := wAnd) (by simp [wAnd]) (zlk E wAnd)
        have m5' : Mv P E J5 := (Mv.add P E _).trans m5
        simp only [wAnd] at q5
        cases kw : (keyT (y3 P k3) == wAnd)
        · rw [kw, if_neg Bool.false_ne_true] at e5 g5
          rw [show (keyT (y3 P k3) == [97, 110, 100]) = false from kw] at q5
          have t11 := m5'.keep _ _ r11 (by omega) (by omega)
          have t12 := m5'.keep _ _ r12 (by omega) (by omega)
          have rd3 : Heap.read J5 ⟨h.length + 1, 0, some 0⟩ 4 = some [str (kwOf false), .slice a' n' c', nilP, str []] := zjt t12 (by simp)
          have wr5 : Heap.write J5 ⟨h.length, 0, some 0⟩ [str (kwOf false), .slice a' n' c', nilP, str []] = some (J5.set h.length (.cells [str (kwOf false), .slice a' n' c', nilP, str []] 0 false)) := zce t11 (by simp [z4])
          have rd4 : Heap.read (J5.set h.length (.cells [str (kwOf false), .slice a' n' c', nilP, str []] 0 false)) ⟨h.length, 0, some 0⟩ 4 = some [str (kwOf false), .slice a' n' c', nilP, str []] := fp (List.getElem?_eq_some_iff.1 t11).1 (by simp)
          simp only [ya, zt, xc, zb, zz, yb, zm, yi, zc, zp, y4, zo, zf, ze, zd, List.set_cons_succ, List.set_cons_zero, O_mv, y0, xi, yg, O_un, ye, List.map_cons, List.map_nil, zx, zk, xt, y5, vf, w7, yd, z8, xe, xf, yx, Nat.lt_add_one, qe, List.length_cons, List.length_nil, Nat.reduceAdd, Nat.zero_add, Bool.not_true, Bool.not_false, zn, yc, zy, za, y9, wd, zb6, slc, gu, yp, xa, z7, xj, y8, zl, xb, xz, fv, qw, yr, z6, zq, zj, List.append_nil, Nat.add_zero, Option.map_some, List.getElem?_cons_zero, List.getElem?_cons_succ, eq_self, wj, Option.map_some, wk, zas, jx, kf, r1, wr1, wr2, r3, r4, wr3, rd1, rd2, zip, List.length_set, r7, wr4, ok_0 r9, r9.r0, q5, rd3, wr5, rd4]
          rw [e.finS (e.upd e5 (Nat.le_refl _) _) ((r10.trans m5').upd (Nat.le_refl _) _) _ (.inl (by omega)), g5]
          have l5 := m5'.le
          refine ⟨_, k3, rfl, rfl, e.upd e5 (Nat.le_refl _) _, ⟨.slice a' n' c', vs ++ [pt b], S', rfl, ?_, ?_, ?_, ?_⟩, (r10.trans m5').upd (Nat.le_refl _) _⟩
          · exact (g1.sl.keep fun c hc o ho => by
              have := g4 c hc
              rw [List.getElem?_set_ne (by omega)]
              exact m5'.keep c o ho (by omega) (by omega))
          · exact g2.keep fun c o hc ho => by
              have := (g3 c hc).1
              rw [List.getElem?_set_ne (by omega)]
              exact m5'.keep c o ho (by omega) (by omega)
          · intro z hz
            obtain ⟨z1, z2, z3⟩ := g3 z hz
            exact ⟨⟨by omega, by rw [List.length_set]; omega⟩, z3⟩
          · intro b hb'
            have := g4 b hb'
            have := (g1.lt hb').2
            exact ⟨by omega, by rw [List.length_set]; omega⟩
        · rw [kw, if_pos rfl] at e5 g5
          rw [show (keyT (y3 P k3) == [97, 110, 100]) = true from kw] at q5
          simp only [ya, zt, ym, zb, zw, yb, zm, yi, zc, zp, y4, zo, zf, ze, zd, List.set_cons_succ, List.set_cons_zero, O_mv, y0, xi, yg, O_un, ye, List.map_cons, List.map_nil, zx, zk, xt, y5, vf, w7, yd, z8, xe, xf, yx, Nat.lt_add_one, qe, List.length_cons, List.length_nil, Nat.reduceAdd, Nat.zero_add, Bool.not_true, zn, yc, zy, za, zi, vz, slc, gu, yp, xa, z7, xj, y8, zl, xb, xz, fv, qw, zq, zj, List.append_nil, Nat.add_zero, Option.map_some, List.getElem?_cons_zero, List.getElem?_cons_succ, wj, Option.map_some, wk, r1, wr1, wr2, r3, r4, wr3, rd1, rd2, zip, List.length_set, r7, wr4, ok_0 r9, r9.r0, q5]
          have hk3l := zm5 (by simp [wAnd]) kw
          have l5 := m5'.le
          refine ⟨P.L.length - (k3 + 1) + 1, by omega, J5, k3 + 1, by omega, junk rfl, .slice a' n' c', _, S', acc ++ [g], rfl, e5, m5'.keep _ _ r11 (by omega) (by omega), m5'.keep _ _ r12 (by omega) (by omega), g1.keep fun c hc o ho => m5'.keep c o ho (by have := g4 c hc; omega) (by have := g4 c hc; omega), g2.keep fun c o hc ho => m5'.keep c o ho (by have := (g3 c hc).1; omega) (by have := (g3 c hc).1; omega), ?_, g4, r10.trans m5', by simp; omega, g5⟩
          intro z hz
          obtain ⟨z1, z2, z3⟩ := g3 z hz
          exact ⟨z1, by omega, z3⟩
    · have L0 := zo7 (h := h) true (K2.set (h.length + 1) (.cells [str wRec, .slice none 0 0, nilP, str []] 0 false)) (i + 1 + 1) (e.upd e2 (by omega) _) ((mK1.trans m2').upd (by omega) _) (by rw [List.getElem?_set_ne (by omega)]; exact zK2) (by rw [List.getElem?_set_self hlK2]; rfl) hRk
      simp only [xu, ya, zt, zb, zz, yb, zm, zc, zp, zo, zf, ze, zd, List.set_cons_succ, List.set_cons_zero, O_mv, yg, ye, List.map_cons, List.map_nil, zx, zk, vf, w7, yd, z8, xe, xf, yx, Nat.lt_add_one, List.cons_append, List.nil_append, List.length_cons, List.length_nil, Nat.reduceSub, Nat.zero_add, zn, yc, zy, za, slc, yp, xa, z7, zl, xb, zq, zj, zh, zg, List.append_assoc, List.length_append, List.append_nil, Nat.add_zero, List.getElem?_cons_zero, yj, wj, wk, ← hz, e0.r0, q1, w1, eK1.r0, q2, w2]
      refine zi0 (LetI P h R true i) ?_ (P.L.length - (i + 1 + 1) + 1) _ ⟨_, i + 1 + 1, by omega, junk rfl, L0⟩
      rintro m st ⟨K, k, hik, ⟨j, rfl⟩, s, vs, S, acc, rfl, eK, hz0, hz1, own, gs, hS, hb, mK, hacc, hg⟩
      obtain ⟨w, p, J1, J2, J3, b, a', n', c', J4, k3, x, a, r1, r2, r3, r4, r5, r6, r7, r8, r9, r10, r11, r12, r13⟩ := zqb e eK hz0 hz1 own gs hS hb mK hacc hg
      have lK := mK.le
      have lz := (List.getElem?_eq_some_iff.1 hz1).1
      have lJ1 := (List.getElem?_eq_some_iff.1 r2).1
      have lJ3 := (List.getElem?_eq_some_iff.1 r5).1
      have wr1 : Heap.write1 J1 ⟨K.length, 0, some 0⟩ (str w) = some (J1.set K.length (.cells [str w, .int .i64 0, nilP] 0 false)) := by rw [b9 r2 (by simp)]; rfl
      have wr2 : Heap.write1 (J1.set K.length (.cells [str w, .int .i64 0, nilP] 0 false)) ⟨K.length, 1, some 0⟩ (.int .i64 p) = some (J1.set K.length (.cells [str w, .int .i64 p, nilP] 0 false)) := by rw [zg3 lJ1 (by simp)]; rfl
      have wr3 : Heap.write1 J3 ⟨K.length, 2, some 0⟩ (pt b) = some (J3.set K.length (.cells [str w, .int .i64 p, pt b] 0 false)) := by rw [b9 r5 (by simp)]; rfl
      have rd1 : Heap.read1 (J3.set K.length (.cells [str w, .int .i64 p, pt b] 0 false)) ⟨h.length + 1, 1, some 0⟩ = some s := by rw [ybo (by simp; omega), x8 r6]; rfl
      have rd2 : Heap.read (J3.set K.length (.cells [str w, .int .i64 p, pt b] 0 false)) ⟨K.length, 0, some 0⟩ 3 = some [str w, .int .i64 p, pt b] := fp lJ3 (by simp)
      obtain ⟨E, hE⟩ : ∃ E, E = J4.set (h.length + 1) (.cells [str (kwOf true), .slice a' n' c', nilP, str []] 0 false) := ⟨_, rfl⟩
      have wr4 : Heap.write1 J4 ⟨h.length + 1, 1, some 0⟩ (.slice a' n' c') = some E := by rw [b9 r8 (by simp), hE]; rfl
      rw [← hE] at r9 r10 r11 r12 r13
      have row4 : ([str (kwOf true), .slice a' n' c', nilP, str []] : List Value).length = 4 := by simp
      rcases r13 with ⟨hx, hRb⟩ | ⟨rfl, rfl, hk3, S', g, g1, g2, g3, g4, g5⟩
      · have rd3 : Heap.read E ⟨h.length + 1, 0, some 0⟩ 4 = some [str (kwOf true), .slice a' n' c', nilP, str []] := zjt r12 (by simp)
        have wr5 : Heap.write E ⟨h.length, 0, some 0⟩ [str (kwOf true), .slice a' n' c', nilP, str []] = some (E.set h.length (.cells [str (kwOf true), .slice a' n' c', nilP, str []] 0 false)) := zce r11 (by simp [z4])
        have rd4 : Heap.read (E.set h.length (.cells [str (kwOf true), .slice a' n' c', nilP, str []] 0 false)) ⟨h.length, 0, some 0⟩ 4 = some [str (kwOf true), .slice a' n' c', nilP, str []] := fp (List.getElem?_eq_some_iff.1 r11).1 (by simp)
        simp only [ya, zt, xc, zb, zz, yb, zm, yi, zc, zp, wq, zo, zf, ze, zd, List.set_cons_succ, List.set_cons_zero, O_mv, y0, xi, yg, O_un, ye, List.map_cons, List.map_nil, zx, zk, xt, y5, vf, w7, yd, z8, xe, xf, qe, List.length_cons, List.length_nil, Nat.reduceAdd, Nat.zero_add, Bool.not_false, zn, yc, zy, za, y9, wd, zb6, slc, gu, yp, xa, z7, xj, y8, zl, xb, xz, fv, qw, yr, z6, List.append_nil, Nat.add_zero, Option.map_some, List.getElem?_cons_zero, List.getElem?_cons_succ, eq_self, wj, Option.map_some, zas, jx, kf, r1, wr1, wr2, r3, r4, wr3, rd1, rd2, zip, List.length_set, r7, wr4, fe r9 hx, rd3, wr5, rd4]
        have st := zyl e r9 r10 r12 hx hRb
        rw [e.finS (e.upd r9 (Nat.le_refl _) _) (r10.upd (Nat.le_refl _) _) _ (.inr hx)]
        exact st
      · obtain ⟨J5, q5, e5, m5⟩ := zhx (r9.more [.cells [str wAnd] 0 false]) (m := wAnd) (by simp [wAnd]) (zlk E wAnd)
        have m5' : Mv P E J5 := (Mv.add P E _).trans m5
        simp only [wAnd] at q5
        cases kw : (keyT (y3 P k3) == wAnd)
        · rw [kw, if_neg Bool.false_ne_true] at e5 g5
          rw [show (keyT (y3 P k3) == [97, 110, 100]) = false from kw] at q5
          have t11 := m5'.keep _ _ r11 (by omega) (by omega)
          have t12 := m5'.keep _ _ r12 (by omega) (by omega)
          have rd3 : Heap.read J5 ⟨h.length + 1, 0, some 0⟩ 4 = some [str (kwOf true), .slice a' n' c', nilP, str []] := zjt t12 (by simp)
          have wr5 : Heap.write J5 ⟨h.length, 0, some 0⟩ [str (kwOf true), .slice a' n' c', nilP, str []] = some (J5.set h.length (.cells [str (kwOf true), .slice a' n' c', nilP, str []] 0 false)) := zce t11 (by simp [z4])
          have rd4 : Heap.read (J5.set h.length (.cells [str (kwOf true), .slice a' n' c', nilP, str []] 0 false)) ⟨h.length, 0, some 0⟩ 4 = some [str (kwOf true), .slice a' n' c', nilP, str []] := fp (List.getElem?_eq_some_iff.1 t11).1 (by simp)
          simp only [ya, zt, xc, zb, zz, yb, zm, yi, zc, zp, y4, zo, zf, ze, zd, List.set_cons_succ, List.set_cons_zero, O_mv, y0, xi, yg, O_un, ye, List.map_cons, List.map_nil, zx, zk, xt, y5, vf, w7, yd, z8, xe, xf, yx, Nat.lt_add_one, qe, List.length_cons, List.length_nil, Nat.reduceAdd, Nat.zero_add, Bool.not_true, Bool.not_false, zn, yc, zy, za, y9, wd, zb6, slc, gu, yp, xa, z7, xj, y8, zl, xb, xz, fv, qw, yr, z6, zq, zj, List.append_nil, Nat.add_zero, Option.map_some, List.getElem?_cons_zero, List.getElem?_cons_succ, eq_self, wj, Option.map_some, wk, zas, jx, kf, r1, wr1, wr2, r3, r4, wr3, rd1, rd2, zip, List.length_set, r7, wr4, ok_0 r9, r9.r0, q5, rd3, wr5, rd4]
          rw [e.finS (e.upd e5 (Nat.le_refl _) _) ((r10.trans m5').upd (Nat.le_refl _) _) _ (.inl (by omega)), g5]
          have l5 := m5'.le
          refine ⟨_, k3, rfl, rfl, e.upd e5 (Nat.le_refl _) _, ⟨.slice a' n' c', vs ++ [pt b], S', rfl, ?_, ?_, ?_, ?_⟩, (r10.trans m5').upd (Nat.le_refl _) _⟩
          · exact (g1.sl.keep fun c hc o ho => by
              have := g4 c hc
              rw [List.getElem?_set_ne (by omega)]
              exact m5'.keep c o ho (by omega) (by omega))
          · exact g2.keep fun c o hc ho => by
              have := (g3 c hc).1
              rw [List.getElem?_set_ne (by omega)]
              exact m5'.keep c o ho (by omega) (by omega)
          · intro z hz
            obtain ⟨z1, z2, z3⟩ := g3 z hz
            exact ⟨⟨by omega, by rw [List.length_set]; omega⟩, z3⟩
          · intro b hb'
            have := g4 b hb'
            have := (g1.lt hb').2
            exact ⟨by omega, by rw [List.length_set]; omega⟩
        · rw [kw, if_pos rfl] at e5 g5
          rw [show (keyT (y3 P k3) == [97, 110, 100]) = true from kw] at q5
          simp only [ya, zt, ym, zb, zw, yb, zm, yi, zc, zp, y4, zo, zf, ze, zd, List.set_cons_succ, List.set_cons_zero, O_mv, y0, xi, yg, O_un, ye, List.map_cons, List.map_nil, zx, zk, xt, y5, vf, w7, yd, z8, xe, xf, yx, Nat.lt_add_one, qe, List.length_cons, List.length_nil, Nat.reduceAdd, Nat.zero_add, Bool.not_true, zn, yc, zy, za, zi, vz, slc, gu, yp, xa, z7, xj, y8, zl, xb, xz, fv, qw, zq, zj, List.append_nil, Nat.add_zero, Option.map_some, List.getElem?_cons_zero, List.getElem?_cons_succ, wj, Option.map_some, wk, r1, wr1, wr2, r3, r4, wr3, rd1, rd2, zip, List.length_set, r7, wr4, ok_0 r9, r9.r0, q5]
          have hk3l := zm5 (by simp [wAnd]) kw
          have l5 := m5'.le
          refine ⟨P.L.length - (k3 + 1) + 1, by omega, J5, k3 + 1, by omega, junk rfl, .slice a' n' c', _, S', acc ++ [g], rfl, e5, m5'.keep _ _ r11 (by omega) (by omega), m5'.keep _ _ r12 (by omega) (by omega), g1.keep fun c hc o ho => m5'.keep c o ho (by have := g4 c hc; omega) (by have := g4 c hc; omega), g2.keep fun c o hc ho => m5'.keep c o ho (by have := (g3 c hc).1; omega) (by have := (g3 c hc).1; omega), ?_, g4, r10.trans m5', by simp; omega, g5⟩
          intro z hz
          obtain ⟨z1, z2, z3⟩ := g3 z hz
          exact ⟨z1, by omega, z3⟩
end Go.Proofs.YtljdbheclfaloaaGreatDoor.AM
namespace Go.Proofs.YtljdbheclfaloaaGreatDoor.AM
open Go.RowKit
set_option linter.unusedSimpArgs false
set_option linter.unusedVariables false

section
variable {call : qt} (ρ : Operand → Value) (h : Heap)
def znn (h : Heap) (kk : EqK) (z : Value) (ok : Bool) (m k : Value) : Option (Value × Heap) :=
  match (if zd2 kk k then zjn h kk k m else none) with
  | some (some v) => some (if ok then tup [v, .bool true] else v, h)
  | some none => some (if ok then tup [z, .bool false] else z, h)
  | none => none
theorem gf (kk : EqK) (z : Value) (m k : Operand) (ok : Bool) : evOp call ρ h (.lookup kk z m k ok) = znn h kk z ok (ρ m) (ρ k) := rfl
def updO (h : Heap) (kk : EqK) : Value → Value → Value → Option (Value × Heap)
  | .map (some b), k, v => match h[b]? with
    | some (.map es) => if zd2 kk k then (pm kk k v es).map fun es' => (undef, h.set b (.map es')) else none
    | _ => none
  | _, _, _ => none
theorem fx (kk : EqK) (m k v : Operand) : evOp call ρ h (.update kk m k v) = updO h kk (ρ m) (ρ k) (ρ v) := by
  simp only [evOp]; generalize ρ m = x
  cases x <;> try rfl
  rename_i b
  cases b <;> rfl
theorem zes : evOp call ρ h .mkMap = some (.map (some h.length), h ++ [.map []]) := rfl
theorem yce (z : Value) (ok : Bool) (w : Bys) : znn h .str z ok (.map none) (str w) = some (if ok then tup [z, .bool false] else z, h) := rfl
def zg1 (z : Value) (ok : Bool) : Option Value → Value
  | some v => if ok then tup [v, .bool true] else v
  | none => if ok then tup [z, .bool false] else z
theorem zfb {b : Nat} {es : List (Value × Value)} (e : h[b]? = some (.map es)) (z : Value) (ok : Bool) {w : Bys} {r : Option Value} (hf : findKey .str (str w) es = some r) : znn h .str z ok (.map (some b)) (str w) = some (zg1 z ok r, h) := by
  have hk : zd2 .str (str w) = true := rfl
  simp only [znn, hk, if_true, zjn, e, hf]
  cases r <;> rfl
theorem zni {b : Nat} {es es' : List (Value × Value)} (e : h[b]? = some (.map es)) {w : Bys} {v : Value} (hs : pm .str (str w) v es = some es') : updO h .str (.map (some b)) (str w) v = some (undef, h.set b (.map es')) := by
  have hk : zd2 .str (str w) = true := rfl
  simp only [updO, e, hk, if_true, hs, Option.map_some]
end
theorem znp {α : Type} (f : α → Value) (w : Bys) : ∀ l : List (Bys × α), findKey .str (str w) (l.map fun p => (str p.1, f p.2)) = some ((l.find? fun p => w == p.1).map fun p => f p.2)
  | [] => rfl
  | (k, a) :: l => by
    rw [List.map_cons, findKey, zms, List.find?_cons]
    simp only
    cases (w == k)
    · exact znp f w l
    · rfl
theorem zsv {α : Type} (f : α → Value) (w : Bys) (a : α) : ∀ l : List (Bys × α), (l.find? fun p => w == p.1) = none → pm .str (str w) (f a) (l.map fun p => (str p.1, f p.2)) = some ((l ++ [(w, a)]).map fun p => (str p.1, f p.2))
  | [], h => rfl
  | (k, b) :: l, h => by
    rw [List.find?_cons] at h
    rw [List.map_cons, pm, zms]
    cases hk : (w == k)
    · rw [hk] at h
      simp only at h ⊢
      rw [zsv f w a l h]; rfl
    · rw [hk] at h; cases h
theorem zgk (kn : Kn) (w : Bys) : jo kn w = (kn.find? fun p => w == p.1).map (·.2) := by
  induction kn with
  | nil => rfl
  | cons p r ih =>
    obtain ⟨v, s⟩ := p
    rw [jo, List.find?_cons]
    simp only
    cases hk : (w == v)
    · simp only [Bool.false_eq_true, if_false]; exact ih
    · simp
theorem yc3 : (([110, 97, 109, 101] : Bys) == [92]) = false := rfl
theorem ycs : (([124] : Bys) == [110, 97, 109, 101]) = false := rfl
theorem zyu : (([124] : Bys) == [92]) = false := rfl
theorem yf0 : (([124] : Bys) == [40]) = false := rfl
theorem yde : (([38] : Bys) == [110, 97, 109, 101]) = false := rfl
theorem ycw : (([38] : Bys) == [124]) = false := rfl
theorem zxf : (([38] : Bys) == [92]) = false := rfl
theorem yfs : (([38] : Bys) == [40]) = false := rfl
theorem ycr : (([92] : Bys) == [110, 97, 109, 101]) = false := rfl
theorem ycq : (([92] : Bys) == [124]) = false := rfl
theorem yco : (([92] : Bys) == [38]) = false := rfl
theorem ye3 : (([92] : Bys) == [40]) = false := rfl
theorem yc0 : (([59] : Bys) == [110, 97, 109, 101]) = false := rfl
theorem ydf : (([59] : Bys) == [124]) = false := rfl
theorem ydj : (([59] : Bys) == [38]) = false := rfl
theorem zut : (([59] : Bys) == [92]) = false := rfl
theorem yfw : (([59] : Bys) == [40]) = false := rfl
theorem yc5 : (([120] : Bys) == [110, 97, 109, 101]) = false := rfl
theorem ycy : (([120] : Bys) == [124]) = false := rfl
theorem ydh : (([120] : Bys) == [38]) = false := rfl
theorem ztd : (([120] : Bys) == [92]) = false := rfl
theorem yda : (([120] : Bys) == [59]) = false := rfl
theorem yfj : (([120] : Bys) == [40]) = false := rfl
theorem zph : (([91] : Bys) == [110, 97, 109, 101]) = false := rfl
theorem zp7 : (([91] : Bys) == [124]) = false := rfl
theorem zpf : (([91] : Bys) == [38]) = false := rfl
theorem zmz : (([91] : Bys) == [92]) = false := rfl
theorem zqo : (([91] : Bys) == [59]) = false := rfl
theorem zqx : (([91] : Bys) == [120]) = false := rfl
theorem yfv : (([91] : Bys) == [40]) = false := rfl
theorem zw1 : (([40] : Bys) == [110, 97, 109, 101]) = false := rfl
theorem ydi : (([40] : Bys) == [124]) = false := rfl
theorem ydc : (([40] : Bys) == [38]) = false := rfl
theorem zyj : (([40] : Bys) == [92]) = false := rfl
theorem ycu : (([40] : Bys) == [59]) = false := rfl
theorem ycv : (([40] : Bys) == [120]) = false := rfl
theorem yck : (([40] : Bys) == [91]) = false := rfl
theorem zxp : (([43] : Bys) == [110, 97, 109, 101]) = false := rfl
theorem zy0 : (([43] : Bys) == [124]) = false := rfl
theorem zxa : (([43] : Bys) == [38]) = false := rfl
theorem zuo : (([43] : Bys) == [92]) = false := rfl
theorem zx9 : (([43] : Bys) == [59]) = false := rfl
theorem zwt : (([43] : Bys) == [120]) = false := rfl
theorem zxo : (([43] : Bys) == [91]) = false := rfl
theorem zxq : (([43] : Bys) == [40]) = false := rfl
theorem zxv : (([42] : Bys) == [110, 97, 109, 101]) = false := rfl
theorem zwx : (([42] : Bys) == [124]) = false := rfl
theorem zwb : (([42] : Bys) == [38]) = false := rfl
theorem ztx : (([42] : Bys) == [92]) = false := rfl
theorem zzb : (([42] : Bys) == [59]) = false := rfl
theorem zy5 : (([42] : Bys) == [120]) = false := rfl
theorem zxw : (([42] : Bys) == [91]) = false := rfl
theorem zwc : (([42] : Bys) == [40]) = false := rfl
theorem zzx : (([42] : Bys) == [43]) = false := rfl
theorem zrr : (([63] : Bys) == [110, 97, 109, 101]) = false := rfl
theorem zq5 : (([63] : Bys) == [124]) = false := rfl
theorem zs1 : (([63] : Bys) == [38]) = false := rfl
theorem znz : (([63] : Bys) == [92]) = false := rfl
theorem zsh : (([63] : Bys) == [59]) = false := rfl
theorem zrc : (([63] : Bys) == [120]) = false := rfl
theorem zsq : (([63] : Bys) == [91]) = false := rfl
theorem zrd : (([63] : Bys) == [40]) = false := rfl
theorem zr8 : (([63] : Bys) == [43]) = false := rfl
theorem zs9 : (([63] : Bys) == [42]) = false := rfl
theorem zs0 : (([94] : Bys) == [110, 97, 109, 101]) = false := rfl
theorem zrx : (([94] : Bys) == [124]) = false := rfl
theorem zr2 : (([94] : Bys) == [38]) = false := rfl
theorem zod : (([94] : Bys) == [92]) = false := rfl
theorem zsk : (([94] : Bys) == [59]) = false := rfl
theorem zrz : (([94] : Bys) == [120]) = false := rfl
theorem zr9 : (([94] : Bys) == [91]) = false := rfl
theorem zta : (([94] : Bys) == [40]) = false := rfl
theorem zr3 : (([94] : Bys) == [43]) = false := rfl
theorem zru : (([94] : Bys) == [42]) = false := rfl
theorem znt : (([94] : Bys) == [63]) = false := rfl
theorem zs5 : (([48] : Bys) == [110, 97, 109, 101]) = false := rfl
theorem zri : (([48] : Bys) == [124]) = false := rfl
theorem zsy : (([48] : Bys) == [38]) = false := rfl
theorem zsi : (([48] : Bys) == [92]) = false := rfl
theorem zre : (([48] : Bys) == [59]) = false := rfl
theorem zq4 : (([48] : Bys) == [120]) = false := rfl
theorem zrt : (([48] : Bys) == [91]) = false := rfl
theorem zry : (([48] : Bys) == [40]) = false := rfl
theorem zrm : (([48] : Bys) == [43]) = false := rfl
theorem zsx : (([48] : Bys) == [42]) = false := rfl
theorem zn8 : (([48] : Bys) == [63]) = false := rfl
theorem zoc : (([48] : Bys) == [94]) = false := rfl
end Go.Proofs.YtljdbheclfaloaaGreatDoor.AM
namespace Go.Proofs.YtljdbheclfaloaaGreatDoor.AM
open Go.RowKit
set_option linter.unusedSimpArgs false
set_option linter.unusedVariables false

def knE (kn : Kn) : List (Value × Value) := kn.map fun p => (str p.1, .bool p.2)
def rcE (rc : List Bys) : List (Value × Value) := (rc.map fun w => (w, ())).map fun p => (str p.1, .bool true)
theorem zrh (kn : Kn) (w : Bys) : findKey .str (str w) (knE kn) = some ((jo kn w).map Value.bool) := by
  rw [knE, znp (fun b => Value.bool b), zgk, Option.map_map]; rfl
theorem znq (w : Bys) : ∀ rc : List Bys, ((rc.map fun w => (w, ())).find? fun p => w == p.1) = if rc.contains w then some (w, ()) else none
  | [] => rfl
  | v :: r => by
    rw [List.map_cons, List.find?_cons, List.contains_cons]
    cases hv : (w == v)
    · simp only [Bool.false_or]; exact znq w r
    · rw [← eq_of_beq hv]; simp
theorem zzw (rc : List Bys) (w : Bys) : findKey .str (str w) (rcE rc) = some (if rc.contains w then some (.bool true) else none) := by
  rw [rcE, znp (fun _ => Value.bool true), znq]
  cases rc.contains w <;> rfl
structure Ch (P : RP) (h : Heap) (q km : Nat) (rm : Value) (n : Nat) (kn : Kn) (rc : List Bys) : Prop where
  cq : h[q]? = some (.cells [pt P.r, .map (some km), rm, .int .i64 (n : Int)] 0 false)
  ck : h[km]? = some (.map (knE kn))
  cr : (rm = .map none ∧ rc = []) ∨ ∃ b, rm = .map (some b) ∧ h[b]? = some (.map (rcE rc))
structure Kp (P : RP) (S : Nat → Prop) (h h' : Heap) : Prop where
  keep : ∀ (b : Nat) (o : AObj), h[b]? = some o → ¬ S b → b ≠ P.r → h'[b]? = some o
  le : h.length ≤ h'.length
theorem Kp.refl (P : RP) (S : Nat → Prop) (h : Heap) : Kp P S h h := ⟨fun _ _ e _ _ => e, Nat.le_refl _⟩
theorem Kp.trans {P : RP} {S S' : Nat → Prop} {h h' h'' : Heap} (a : Kp P S h h') (b : Kp P S' h' h'') : Kp P (fun z => S z ∨ S' z) h h'' :=
  ⟨fun x o e n1 n2 => b.keep x o (a.keep x o e (fun hh => n1 (.inl hh)) n2) (fun hh => n1 (.inr hh)) n2, Nat.le_trans a.le b.le⟩
theorem Kp.weak {P : RP} {S S' : Nat → Prop} {h h' : Heap} (a : Kp P S h h') (hs : ∀ z, S z → S' z) : Kp P S' h h' := ⟨fun b o e n1 n2 => a.keep b o e (fun hh => n1 (hs b hh)) n2, a.le⟩
theorem Kp.add (P : RP) (S : Nat → Prop) (h L : Heap) : Kp P S h (h ++ L) := ⟨fun b o e _ _ => y6 L e, by simp⟩
theorem Mv.kp {P : RP} {h h' : Heap} (m : Mv P h h') (hc : ∀ o, h[P.c]? = some o → h'[P.c]? = some o) : Kp P (fun _ => False) h h' := ⟨fun b o e _ n2 => by
  by_cases hb : b = P.c
  · subst hb; exact hc o e
  · exact m.keep b o e n2 hb, m.le⟩
structure Cl (P : RP) (hb : Heap) (q km : Nat) (rm : Value) (S : Nat → Prop) : Prop where
  lo : ∀ z, S z → hb.length ≤ z
  q : ¬ S q
  k : ¬ S km
  r : ∀ b, rm = .map (some b) → ¬ S b
theorem Cl.weak {P : RP} {hb : Heap} {q km : Nat} {rm : Value} {S S' : Nat → Prop} (c : Cl P hb q km rm S) (hs : ∀ z, S' z → S z) : Cl P hb q km rm S' :=
  ⟨fun z hz => c.lo z (hs z hz), fun h => c.q (hs _ h), fun h => c.k (hs _ h), fun b hb h => c.r b hb (hs _ h)⟩
theorem Ch.kp {P : RP} {h h' : Heap} {q km n i d x a : Nat} {rm : Value} {kn : Kn} {rc : List Bys} {S : Nat → Prop} (c : Ch P h q km rm n kn rc) (e : Rd P h i d x a) (k : Kp P S h h') (hq : ¬ S q) (hk : ¬ S km) (hr : ∀ b, rm = .map (some b) → ¬ S b) : Ch P h' q km rm n kn rc := by
  have n1 : q ≠ P.r := by
    rintro rfl
    have := e.hr.symm.trans c.cq
    simp at this
  have n2 : km ≠ P.r := by
    rintro rfl
    have := e.hr.symm.trans c.ck
    simp at this
  refine ⟨k.keep _ _ c.cq hq n1, k.keep _ _ c.ck hk n2, ?_⟩
  rcases c.cr with h1 | ⟨b, h1, h2⟩
  · exact .inl h1
  · refine .inr ⟨b, h1, k.keep _ _ h2 (hr b h1) ?_⟩
    rintro rfl
    have := e.hr.symm.trans h2
    simp at this
section
variable {P : RP} {h : Heap} {i d x a q bb : Nat} {km rm nn : Value}
theorem po : jf .ptr (.pointer none) (.pointer none) = some true := rfl
theorem xm (p : Addr) : jf .ptr (.pointer (some p)) (.pointer none) = some false := rfl
set_option maxRecDepth 10000 in
theorem zfw (e : Rd P h i d x a) (rt : Bool) : DF FF xl [pt q, nilP, .bool rt] h = some (tup [], h) := by
  have : ∃ v h', DF FF xl [pt q, nilP, .bool rt] h = some (v, h') ∧ (v = tup [] ∧ h' = h) := by
    refine wx qo ?_
    simp only [yw, ya, zt, xc, zb, zz, yb, zm, yi, zc, wq, zo, zf, ze, zd, List.set_cons_succ, List.set_cons_zero, O_mv, y0, xi, List.cons_append, List.nil_append, List.length_cons, List.length_nil, Nat.reduceAdd, Nat.reduceSub, Nat.zero_add, zn, yc, za, y9, w6, zh, zg, Bool.bne_false, jw, eq_self, zs, yj, laid, po, xp, zs, zey, yf5]
    exact ⟨trivial, trivial⟩
  obtain ⟨v, h', r, rfl, rfl⟩ := this
  exact r
set_option maxRecDepth 10000 in
theorem ztz (e : Rd P h i d x a) (hx : x ≠ 0) (hq : h[q]? = some (.cells [pt P.r, km, rm, nn] 0 false)) (b : Nat) (rt : Bool) : DF FF xl [pt q, pt b, .bool rt] h = some (tup [], h) := by
  have : ∃ v h', DF FF xl [pt q, pt b, .bool rt] h = some (v, h') ∧ (v = tup [] ∧ h' = h) := by
    refine wx qo ?_
    have rq : ∀ L j, Heap.read1 (h ++ L) ⟨q, j, some 0⟩ = ([pt P.r, km, rm, nn] : List Value)[j]? := fun L j => x8 (y6 L hq)
    simp only [yw, ya, zt, xc, zb, zz, yb, zm, yi, zc, y4, zo, zf, ze, zd, List.set_cons_succ, List.set_cons_zero, O_mv, y0, xi, yg, O_un, ye, List.map_cons, List.map_nil, zx, zk, qe, List.cons_append, List.nil_append, List.length_cons, List.length_nil, Nat.reduceAdd, Nat.reduceSub, Nat.zero_add, Bool.not_false, zn, yc, za, y9, w6, xa, z7, zq, zj, yu, yo, zh, zg, Nat.add_zero, List.getElem?_cons_zero, Bool.bne_false, jw, eq_self, zs, yj, laid, xm, xp, zs, rq, fe (e.more _) hx, zey, yf5]
    exact ⟨trivial, trivial⟩
  obtain ⟨v, h', r, rfl, rfl⟩ := this
  exact r
theorem zox {b : Nat} {op w : Bys} {p : Nat} {l r : Value} {s : Bool} (hb : h[b]? = some (.cells (vm op w p l r s) 0 false)) : DF FF wi [pt b, .bool s, pt bb] h = some (tup [], h) := by
  have : ∃ v h', DF FF wi [pt b, .bool s, pt bb] h = some (v, h') ∧ (v = tup [] ∧ h' = h) := by
    refine wx bv ?_
    have rb : Heap.read1 h ⟨b, 5, some 0⟩ = some (.bool s) := x8 hb
    simp only [gy, ya, zt, ym, zb, zw, yb, zm, zc, zo, ze, zd, List.set_cons_succ, List.set_cons_zero, O_mv, yg, zx, zk, List.cons_append, List.nil_append, List.length_cons, List.length_nil, Nat.reduceAdd, Nat.reduceSub, Nat.zero_add, zn, yc, za, xa, z7, zq, zj, zh, zg, wy, beq_self_eq_true, jw, zh9, eq_self, rb, bne_self_eq_false, wn, wy]
    exact ⟨trivial, trivial⟩
  obtain ⟨v, h', r, rfl, rfl⟩ := this
  exact r
theorem zot (e : Rd P h i d 0 a) (hq : h[q]? = some (.cells [pt P.r, km, rm, nn] 0 false)) (hbb : h[bb]? = some (.cells [pt q] 0 false)) {b : Nat} {op w : Bys} {p : Nat} {l r : Value} {s t : Bool} (hb : h[b]? = some (.cells (vm op w p l r s) 0 false)) (hst : (s == t) = false) :
    ∃ h', DF FF wi [pt b, .bool t, pt bb] h = some (tup [], h') ∧ Rd P h' i d 41 p ∧ Mv P h h' ∧ h'[P.c]? = h[P.c]? := by
  have : ∃ v h', DF FF wi [pt b, .bool t, pt bb] h = some (v, h') ∧ (v = tup [] ∧ Rd P h' i d 41 p ∧ Mv P h h' ∧ h'[P.c]? = h[P.c]?) := by
    refine wx bv ?_
    have rb : ∀ j, Heap.read1 h ⟨b, j, some 0⟩ = (vm op w p l r s)[j]? := fun j => x8 hb
    have rq : ∀ j, Heap.read1 h ⟨q, j, some 0⟩ = ([pt P.r, km, rm, nn] : List Value)[j]? := fun j => x8 hq
    have rbb : Heap.read1 h ⟨bb, 0, some 0⟩ = some (pt q) := x8 hbb
    have n5 : (vm op w p l r s)[5]? = some (.bool s) := rfl
    obtain ⟨h', f, e', m⟩ := zje e 41 p (by omega)
    simp only [Int.cast_ofNat_Int] at f
    simp only [gy, ya, zt, zb, zz, yb, zm, zc, zo, zf, ze, zd, List.set_cons_succ, List.set_cons_zero, O_mv, yg, ye, List.map_cons, List.map_nil, zx, zk, List.cons_append, List.nil_append, List.length_cons, List.length_nil, Nat.reduceAdd, Nat.reduceSub, Nat.zero_add, Bool.not_false, zn, yc, za, xa, z7, zq, zj, zh, zg, Nat.add_zero, List.getElem?_cons_zero, Bool.bne_true, jw, zh9, eq_self, rb, n5, fz, hst, rq, rbb, f, wn]
    rw [e.fin e' m (tup []) (.inr (.inr (.inl (by omega))))]
    exact ⟨trivial, e', m, by rw [e'.hc, e.hc]⟩
  obtain ⟨v, h', r, rfl, e', m, hc⟩ := this
  exact ⟨h', r, e', m, hc⟩
theorem yeq (e : Rd P h i d x a) (hx : x ≠ 0) (hq : h[q]? = some (.cells [pt P.r, km, rm, nn] 0 false)) (hbb : h[bb]? = some (.cells [pt q] 0 false)) {b : Nat} {op w : Bys} {p : Nat} {l r : Value} {s : Bool} (t : Bool) (hb : h[b]? = some (.cells (vm op w p l r s) 0 false)) :
    DF FF wi [pt b, .bool t, pt bb] h = some (tup [], h) := by
  cases hst : (s == t)
  · have : ∃ v h', DF FF wi [pt b, .bool t, pt bb] h = some (v, h') ∧ (v = tup [] ∧ h' = h) := by
      refine wx bv ?_
      have rb : ∀ j, Heap.read1 h ⟨b, j, some 0⟩ = (vm op w p l r s)[j]? := fun j => x8 hb
      have rq : ∀ j, Heap.read1 h ⟨q, j, some 0⟩ = ([pt P.r, km, rm, nn] : List Value)[j]? := fun j => x8 hq
      have rbb : Heap.read1 h ⟨bb, 0, some 0⟩ = some (pt q) := x8 hbb
      have n5 : (vm op w p l r s)[5]? = some (.bool s) := rfl
      simp only [gy, ya, zt, zb, zz, yb, zm, zc, zo, zf, ze, zd, List.set_cons_succ, List.set_cons_zero, O_mv, yg, ye, List.map_cons, List.map_nil, zx, zk, List.cons_append, List.nil_append, List.length_cons, List.length_nil, Nat.reduceAdd, Nat.reduceSub, Nat.zero_add, Bool.not_false, zn, yc, za, xa, z7, zq, zj, zh, zg, Nat.add_zero, List.getElem?_cons_zero, wy, Bool.bne_true, jw, zh9, eq_self, rb, n5, fz, hst, rq, rbb, zly e hx, wn, wy]
      exact ⟨trivial, trivial⟩
    obtain ⟨v, h', r, rfl, rfl⟩ := this
    exact r
  · rw [← eq_of_beq hst]; exact zox hb
end
end Go.Proofs.YtljdbheclfaloaaGreatDoor.AM
namespace Go.Proofs.YtljdbheclfaloaaGreatDoor.AM
open Go.RowKit
set_option linter.unusedSimpArgs false
set_option linter.unusedVariables false

theorem zmj {e : Nat} : ∀ {k : Nat} {ts r : List Tok} {gs : List Gv}, p9 e k ts = .ok gs r → r.length ≤ ts.length ∧ gs.length ≤ ts.length
  | 0, ts, r, gs, h => by rw [p9] at h; cases h; simp
  | k + 1, ts, r, gs, h => by
    rw [p9] at h
    cases hg : zl7 e ts with
    | bad c a => rw [hg] at h; cases h
    | ok g r1 =>
      have h1 := zib hg
      rw [hg] at h
      cases r1 with
      | nil => cases h; simp at h1 ⊢; omega
      | cons t r1 =>
        simp only at h
        split at h
        · cases hr : p9 e k r1 with
          | bad c a => rw [hr] at h; cases h
          | ok gs' r2 =>
            rw [hr] at h
            obtain ⟨a, b⟩ := zmj hr
            simp only [List.length_cons] at h1
            cases h
            simp only [List.length_cons]; omega
        · cases h; simp only [List.length_cons, List.length_nil] at h1 ⊢; omega
theorem zk9 {e : Nat} {rc : Bool} {ts r : List Tok} {s : Stm} (h : zon e rc ts = .ok s r) : r.length ≤ ts.length ∧ ∀ rc' gs, s = .lets rc' gs → gs.length ≤ ts.length := by
  unfold zon at h
  split at h
  · cases h
  · rename_i gs r' hg
    cases h
    obtain ⟨a, b⟩ := zmj hg
    exact ⟨a, fun rc' gs' hs => by cases hs; exact b⟩
theorem zi5 {e : Nat} {k : Ck} {ts r : List Tok} {s : Stm} (h : ze3 e k ts = .ok s r) : r.length ≤ ts.length ∧ ∀ rc' gs, s ≠ .lets rc' gs := by
  unfold ze3 at h
  split at h
  · cases h
  · rename_i x hx
    cases h; exact ⟨by simp, fun _ _ => by simp⟩
  · rename_i x t r1 hx
    have h1 := zf1 _ _ _ _ _ hx
    simp only [List.length_cons] at h1
    split at h
    · split at h
      · cases h
      · rename_i w r2 hn
        cases h
        cases r1 with
        | nil => cases hn
        | cons t2 r2' =>
          rw [zm9] at hn
          split at hn
          · cases hn; exact ⟨by simp at h1 ⊢; omega, fun _ _ => by simp⟩
          · cases hn
    · cases h; exact ⟨by simp; omega, fun _ _ => by simp⟩
theorem zft {e : Nat} {t : Tok} {ts r : List Tok} {s : Stm} (h : zjr e (t :: ts) = .ok s r) : r.length ≤ ts.length ∧ ∀ rc' gs, s = .lets rc' gs → gs.length ≤ ts.length := by
  rw [zjr] at h
  split at h
  · cases ts with
    | nil => exact zk9 (rc := false) h
    | cons t2 r2 =>
      rw [letP] at h
      split at h
      · obtain ⟨a, b⟩ := zk9 h
        exact ⟨by simp; omega, fun rc gs hs => by have := b rc gs hs; simp; omega⟩
      · exact zk9 h
  split at h
  · obtain ⟨a, b⟩ := zi5 h; exact ⟨a, fun rc gs hs => absurd hs (b rc gs)⟩
  split at h
  · obtain ⟨a, b⟩ := zi5 h; exact ⟨a, fun rc gs hs => absurd hs (b rc gs)⟩
  split at h
  · obtain ⟨a, b⟩ := zi5 h; exact ⟨a, fun rc gs hs => absurd hs (b rc gs)⟩
  · cases h
theorem zkp (e : Nat) : ∀ k k' ts, ts.length ≤ k → ts.length ≤ k' → bg e k ts = bg e k' ts
  | 0, k', ts, h, h' => by
    have : ts = [] := List.eq_nil_of_length_eq_zero (by omega)
    subst this
    cases k' <;> rfl
  | k + 1, 0, ts, h, h' => by
    have : ts = [] := List.eq_nil_of_length_eq_zero (by omega)
    subst this; rfl
  | k + 1, k' + 1, [], h, h' => rfl
  | k + 1, k' + 1, t :: ts, h, h' => by
    simp only [List.length_cons] at h h'
    rw [bg, bg]
    cases hs : zjr e (t :: ts) with
    | bad c a => rfl
    | ok s r =>
      have := (zft hs).1
      simp only
      rw [zkp e k k' r (by omega) (by omega)]
theorem ybh {P : RP} {k : Nat} (hk : k < P.L.length) : bg P.en P.L.length (P.L.drop k) = match zjr P.en (P.L.drop k) with
    | .bad c a => .bad c a
    | .ok s r => match bg P.en P.L.length r with
      | .bad c a => .bad c a
      | .ok l r2 => .ok (s :: l) r2 := by
  obtain ⟨q, hq⟩ : ∃ q, P.L.length = q + 1 := ⟨P.L.length - 1, by omega⟩
  rw [gz hk]
  rw [show bg P.en P.L.length (y3 P k :: P.L.drop (k + 1)) = bg P.en (q + 1) (y3 P k :: P.L.drop (k + 1)) by rw [← hq], bg]
  cases hs : zjr P.en (y3 P k :: P.L.drop (k + 1)) with
  | bad c a => rfl
  | ok s r =>
    have := (zft hs).1
    simp only [List.length_drop] at this
    simp only
    rw [zkp P.en q P.L.length r (by omega) (by omega)]
    rfl
theorem zvo {s : List UInt8} {c : Nat} (h : zfs s = .bad c) : c ≠ 0 := by
  cases s with
  | nil => cases h; decide
  | cons b s =>
    rw [zfs] at h
    split at h
    · split at h
      · cases h
      · cases h; decide
    · split at h
      · cases h
      · split at h
        · cases h
        · split at h
          · cases h
          · cases h; decide
theorem zin : ∀ {f : Nat} {s : List UInt8} {a c p : Nat}, zgp f s a = .bad c p → c ≠ 0
  | 0, s, a, c, p, h => by cases h
  | f + 1, s, a, c, p, h => by
    rw [zgp] at h
    split at h
    · cases h
    · split at h
      · exact zin h
      · cases h; decide
      · split at h
        · rename_i kd k n hw
          cases hq : zgp f (s.drop k) (a + k) with
          | ok l => rw [hq] at h; cases h
          | bad c' p' => rw [hq] at h; cases h; exact zin hq
        · rename_i c' hw
          cases h; exact zvo hw
theorem zvy {s : List UInt8} {a c p : Nat} (h : pk s a = .bad c p) : c ≠ 0 := zin h
theorem ya9 {s : List UInt8} {kd k a : Nat} {n : Int} (h : zfs s = .word kd k n) : zqz ⟨kd, s.take k, n, a⟩ := by
  have hp := zfq h
  cases s with
  | nil => cases h
  | cons c s =>
    have ht : ∀ k, 1 ≤ k → (c :: s).take k = c :: s.take (k - 1) := fun k hk => by
      obtain ⟨m, rfl⟩ : ∃ m, k = m + 1 := ⟨k - 1, by omega⟩
      rfl
    rw [zfs] at h
    split at h
    · split at h
      · cases h; exact .inr (.inl rfl)
      · cases h
    · split at h
      · rename_i hl
        cases h
        exact .inl ⟨rfl, c, _, ht _ hp.1, hl⟩
      · split at h
        · rename_i hm
          cases h
          refine .inr (.inr ⟨rfl, c, _, ht _ hp.1, ?_⟩)
          rcases Bool.or_eq_true_iff.1 hm with hm | hm
          · have : c = 47 := by simp [List.isPrefixOf] at hm; exact hm.1.symm
            rw [this]; rfl
          · have : c = 92 := by simp [List.isPrefixOf] at hm; exact hm.1.symm
            rw [this]; rfl
        · split at h
          · rename_i hm
            cases h
            exact .inr (.inr ⟨rfl, c, _, ht _ hp.1, hm⟩)
          · cases h
theorem zo0 : ∀ {f : Nat} {s : List UInt8} {a : Nat} {l : List Tok}, zgp f s a = .ok l → (∀ t ∈ l, zqz t) ∧ l.length ≤ f
  | 0, s, a, l, h => by cases h; simp
  | f + 1, s, a, l, h => by
    rw [zgp] at h
    split at h
    · cases h; simp
    · split at h
      · obtain ⟨x, y⟩ := zo0 h; exact ⟨x, by omega⟩
      · cases h
      · split at h
        · rename_i kd k n hw
          cases hq : zgp f (s.drop k) (a + k) with
          | ok m =>
            rw [hq] at h
            obtain ⟨x, y⟩ := zo0 hq
            cases h
            refine ⟨fun t ht => ?_, by simp; omega⟩
            rcases List.mem_append.1 ht with ht | ht
            · simp at ht; subst ht; exact ya9 hw
            · exact x t ht
          | bad c' p' => rw [hq] at h; cases h
        · cases h
theorem ybf {s : List UInt8} {a : Nat} {l : List Tok} (h : pk s a = .ok l) : (∀ t ∈ l, zqz t) ∧ l.length ≤ s.length := zo0 h
theorem Pre.of {h H : Heap} (hl : h.length ≤ H.length) (hk : ∀ (b : Nat) (o : AObj), h[b]? = some o → H[b]? = some o) : Pre h H := by
  refine ⟨H.drop h.length, ?_⟩
  have : H.take h.length = h := by
    apply List.ext_getElem?
    intro b
    rw [List.getElem?_take]
    by_cases hb : b < h.length
    · rw [if_pos hb]
      have := hk b h[b] (List.getElem?_eq_getElem hb)
      rw [this, List.getElem?_eq_getElem hb]
    · rw [if_neg hb, List.getElem?_eq_none (by omega)]
  rw [← this, List.length_take, Nat.min_eq_left (by omega), List.take_append_drop]
/-! Known at first. -/
def wz (d : Bys × Bool) : List Value := [str d.1, .bool d.2]
end Go.Proofs.YtljdbheclfaloaaGreatDoor.AM
namespace Go.Proofs.YtljdbheclfaloaaGreatDoor.AM
open Go.RowKit
set_option linter.unusedSimpArgs false
set_option linter.unusedVariables false
set_option maxRecDepth 20000

theorem zqf {h : Heap} {s : Value} {rows : List (List Value)} (e : Sl h s 4 rows) (hr : rows.length ≤ 1000000) : ∃ s' h', DF FF v8 [s] h = some (s', h') ∧ Own h h' s' 4 rows ∧ Pre h h' := by
  have : ∃ s' h', DF FF v8 [s] h = some (s', h') ∧ (Own h h' s' 4 rows ∧ Pre h h') := by
    refine wx zah ?_
    rcases e with ⟨⟨rfl, rfl⟩ | ⟨b, o, v, rfl, hrd⟩, hc⟩
    · simp only [jn, ya, zt, xc, zb, zz, yb, zm, zc, zo, zf, ze, zd, List.set_cons_succ, List.set_cons_zero, O_mv, List.cons_append, List.nil_append, List.length_cons, List.length_nil, Nat.reduceSub, Nat.zero_add, zn, yc, za, y9, zh, zg, wy, wg, Bool.bne_false, jw, yj, nils, show jf .slice (.slice none 0 0) (.slice none 0 0) = some true from rfl, xp, wg, wy]
      exact ⟨Own.nil _ _ _, Pre.refl h⟩
    · have hl := bm rows 4 hc
      have hs : zdl (h ++ [AObj.cells [] 0 false]) 4 (.slice (some ⟨b, o, some v⟩) rows.length 4) = some (rows.flatten, rows.length) := zuk _ (zlj h _ hrd)
      have ha := zpe h (L := []) (size := 4) (bytes := 40) (m := 0) (n := rows.length) (ver := 0) (vals := []) (ys := rows.flatten) (by simp) (by unfold fm; omega)
      simp only [List.nil_append, Nat.zero_add] at ha
      simp only [jn, ya, zt, xc, ym, zb, zw, yb, zm, zc, zo, zf, ze, zd, List.set_cons_succ, List.set_cons_zero, O_mv, vf, w7, yd, xe, yx, List.cons_append, List.nil_append, List.length_cons, List.length_nil, Nat.reduceAdd, Nat.reduceSub, Nat.zero_add, zn, yc, za, slc, gu, zh, zg, wg, Bool.bne_false, jw, yj, show jf .slice (.slice (some ⟨b, o, some v⟩) rows.length 4) (.slice none 0 0) = some false from rfl, xp, hs, ha, wg]
      rw [zgc h rfl]
      exact ⟨⟨.inr ⟨h.length, 1, Nat.le_refl _, rfl, by simp⟩, hc⟩, Pre.more (Pre.refl h) _⟩
  obtain ⟨s', h', q, a, b⟩ := this
  exact ⟨s', h', q, a, b⟩
theorem ygp {h : Heap} {s : Value} {rows : List (List Value)} (e : Sl h s 4 rows) (hr : rows.length ≤ 1000000) : ∃ s' c h', DF FF zgn [s] h = some (pt c, h') ∧ h'[c]? = some (.cells [s', .int .i64 0] 0 false) ∧ Own h h' s' 4 rows ∧ blk s' ≠ some c ∧ h.length ≤ c ∧ Pre h h' := by
  have : ∃ v h', DF FF zgn [s] h = some (v, h') ∧ ∃ s' c, (v = pt c ∧ h'[c]? = some (.cells [s', .int .i64 0] 0 false) ∧ Own h h' s' 4 rows ∧ blk s' ≠ some c ∧ h.length ≤ c ∧ Pre h h') := by
    refine wx zvu ?_
    obtain ⟨s', h1, q, a, p⟩ := zqf e hr
    obtain ⟨x, y, z, rfl⟩ := a.slice
    simp only [zmo, ya, xc, zb, yb, zm, zc, zo, zf, ze, zd, List.set_cons_succ, List.set_cons_zero, O_mv, ye, List.map_cons, List.map_nil, x9, y7, yd, z8, yx, zme, Nat.zero_lt_succ, List.cons_append, List.nil_append, List.length_cons, List.length_nil, Nat.reduceAdd, Nat.reduceSub, Nat.zero_add, zn, yc, za, w6, zh, zg, wg, eq_self, yf, zs, q, yf, zs, wg, k8]
    exact ⟨_, _, rfl, by simp, a.more _, fun h => by have := (a.lt h).2; omega, p.le, p.more _⟩
  obtain ⟨v, h', q, s', c, rfl, g⟩ := this
  exact ⟨s', c, h', q, g⟩
structure M3 (P : RP) (mb : Nat) (h h' : Heap) : Prop where
  keep : ∀ (b : Nat) (o : AObj), h[b]? = some o → b ≠ P.r → b ≠ P.c → b ≠ mb → h'[b]? = some o
  le : h.length ≤ h'.length
theorem M3.refl (P : RP) (mb : Nat) (h : Heap) : M3 P mb h h := ⟨fun _ _ e _ _ _ => e, Nat.le_refl _⟩
theorem zz1 (z0 z1 z2 z3 : Value) {row : List Value} (h : row.length = 4) : wo [z0, z1, z2, z3] [(0, 4, agg row)] = some row := by
  match row, h with
  | [a, b, c, d], _ => exact zek z0 z1 z2 z3 a b c d
def PaS (P : RP) (mb : Nat) (H4 : Heap) (R : PR (List Stm)) (m : Nat) (K : Heap) : Prop :=
  (∃ k ss T acc rows, m = P.L.length - k + 1 ∧ Rd P K k 0 0 0 ∧ K[mb]? = some (.cells [nils, ss] 0 false) ∧ Own [] K ss 4 rows ∧ StsP K T rows acc ∧ (∀ z, T z → mb < z ∧ z < K.length ∧ blk ss ≠ some z) ∧ (∀ b, blk ss = some b → mb < b) ∧ M3 P mb H4 K ∧ acc.length ≤ k ∧
    (∀ rc gs, Stm.lets rc gs ∈ acc → gs.length ≤ 8192) ∧ (match bg P.en P.L.length (P.L.drop k) with | .bad c a => R = .bad c a | .ok l r => R = .ok (acc ++ l) r)) ∨
  (∃ k c a x y z rows, m = 0 ∧ Rd P K k 0 c a ∧ c ≠ 0 ∧ R = .bad c a ∧ K[mb]? = some (.cells [nils, .slice x y z] 0 false) ∧ M3 P mb H4 K ∧ Own [] K (.slice x y z) 4 rows ∧ (∀ b, blk (.slice x y z) = some b → mb < b) ∧ rows.length ≤ 8193)
def PaI (P : RP) (mb : Nat) (H4 : Heap) (ns : Value) (R : PR (List Stm)) (m : Nat) (st : St) : Prop := ∃ K, (∃ j : Nat → Value, st = ⟨[j 0, ns, j 2, j 3, j 4, j 5, j 6, j 7, j 8, j 9, pt P.r, pt mb, j 12, j 13, j 14, j 15, j 16, j 17, j 18, j 19, j 20, j 21, j 22, j 23, j 24, j 25, j 26, j 27, j 28, j 29, j 30, j 31, j 32, j 33, j 34, j 35, j 36, j 37, j 38, j 39, j 40, j 41, j 42, j 43, j 44, j 45, j 46, j 47, j 48, j 49, j 50, j 51, j 52, j 53, j 54, j 55, j 56, j 57, j 58, j 59, j 60, j 61, j 62, j 63, j 64, j 65, j 66, j 67, j 68, j 69, j 70, j 71, j 72, j 73, j 74, j 75, j 76, j 77, j 78, j 79, j 80, j 81, j 82, j 83, j 84, j 85, j 86, j 87, j 88, j 89, j 90, j 91, j 92, j 93, j 94, j 95, j 96, j 97, j 98, j 99, j 100, j 101, j 102, j 103, j 104, j 105, j 106, j 107, j 108, j 109, j 110, j 111, j 112, j 113, j 114, j 115, j 116, j 117, j 118, j 119, j 120, j 121, j 122, j 123, j 124, j 125, j 126, j 127, j 128, j 129, j 130], K⟩) ∧ PaS P mb H4 R m K
theorem ybg {P : RP} {mb : Nat} {H4 K : Heap} {R : PR (List Stm)} {k : Nat} {ss : Value} {T : Nat → Prop} {acc : List Stm} {rows : List (List Value)} (e4 : Rd P H4 0 0 0 0) (hl4 : H4.length = mb + 1) (hmr : mb ≠ P.r) (hmc : mb ≠ P.c) (hwm : blk P.ws ≠ some mb) (hcm : blk P.cs ≠ some mb) (hk : k < P.L.length) (eK : Rd P K k 0 0 0) (hm : K[mb]? = some (.cells [nils, ss] 0 false)) (own : Own [] K ss 4 rows) (st : StsP K T rows acc) (hT : ∀ z, T z → mb < z ∧ z < K.length ∧ blk ss ≠ some z) (hb : ∀ b, blk ss = some b → mb < b) (m4 : M3 P mb H4 K) (hacc : acc.length ≤ k)
    (hgs : ∀ rc gs, Stm.lets rc gs ∈ acc → gs.length ≤ 8192) (hR : (match bg P.en P.L.length (P.L.drop k) with | .bad c a => R = .bad c a | .ok l r => R = .ok (acc ++ l) r)) :
    ∃ row K1 x y z K2, row.length = 4 ∧ DF FF gt [pt P.r] K = some (agg row, K1) ∧ Heap.read1 K1 ⟨mb, 1, some 0⟩ = some ss ∧
      ge (K1 ++ [.cells row 0 false]) 4 64 ss (zdl (K1 ++ [.cells row 0 false]) 4 (.slice (some ⟨K1.length, 0, some 0⟩) 1 4)) = some (.slice x y z, K2) ∧ Heap.write1 K2 ⟨mb, 1, some 0⟩ (.slice x y z) = some (K2.set mb (.cells [nils, .slice x y z] 0 false)) ∧
      ∃ m', m' < P.L.length - k + 1 ∧ PaS P mb H4 R m' (K2.set mb (.cells [nils, .slice x y z] 0 false)) := by
  have hL := P.len
  have lr := e4.lr; have lc := e4.lc
  obtain ⟨v, K1, q1, x1⟩ := zst eK hk
  have m1 : Mv P K K1 := by
    cases hx : zjr P.en (P.L.drop k) with
    | ok s r => rw [hx] at x1; obtain ⟨_, _, _, _, _, _, m⟩ := x1; exact m
    | bad c a => rw [hx] at x1; obtain ⟨_, _, _, _, _, m⟩ := x1; exact m
  obtain ⟨row, hrow, hr4⟩ : ∃ row, v = agg row ∧ row.length = 4 := by
    cases hx : zjr P.en (P.L.drop k) with
    | ok s r => rw [hx] at x1; obtain ⟨row, _, hv, _, _, st, _⟩ := x1; exact ⟨row, hv, st.len⟩
    | bad c a => rw [hx] at x1; obtain ⟨row, hv, h4, _⟩ := x1; exact ⟨row, hv, h4⟩
  subst hrow
  have hm1 := m1.keep _ _ hm hmr hmc
  have own1 : Own [] K1 ss 4 rows := own.keep fun b hb' o ho => m1.keep b o ho (by have := hb b hb'; omega) (by have := hb b hb'; omega)
  obtain ⟨ss', K2, p1, p2, p3, p4, p5, p6⟩ := own1.push (⟨_, rfl⟩ : Pre [] K1) (row := row) (bytes := 64) hr4 (by rw [(st.len).1]; unfold fm; omega)
  obtain ⟨x, y, z, rfl⟩ := p2.slice
  have hbm : blk ss ≠ some mb := fun h => by have := hb _ h; omega
  have hm2 : K2[mb]? = some (.cells [nils, ss] 0 false) := p5 _ _ hm1 hbm
  have lm2 := (List.getElem?_eq_some_iff.1 hm2).1
  have blk2 : ∀ b, blk (.slice x y z) = some b → mb < b := fun b hb' => by
    rcases p6 with h | ⟨j, h, h'⟩
    · rw [h] at hb'; exact hb b hb'
    · rw [h] at hb'; cases hb'; have := (List.getElem?_eq_some_iff.1 hm1).1; omega
  have m2 : M3 P mb H4 (K2.set mb (.cells [nils, .slice x y z] 0 false)) := ⟨fun b o ho n1 n2 n3 => by
    have hlt := (List.getElem?_eq_some_iff.1 ho).1
    rw [List.getElem?_set_ne (Ne.symm n3)]
    exact p5 b o (m1.keep b o (m4.keep b o ho n1 n2 n3) n1 n2) fun h => by have := hb b h; omega, by rw [List.length_set]; have := m4.le; have := m1.le; omega⟩
  have rd2 : ∀ k' x' a', Rd P K1 k' 0 x' a' → Rd P (K2.set mb (.cells [nils, .slice x y z] 0 false)) k' 0 x' a' := fun k' x' a' e => by
    have kp : ∀ b o, b < H4.length → b ≠ mb → K1[b]? = some o → (K2.set mb (.cells [nils, .slice x y z] 0 false))[b]? = some o := fun b o hlt n3 ho => by
      rw [List.getElem?_set_ne (Ne.symm n3)]; exact p5 b o ho fun h => by have := hb b h; omega
    have wlt : ∀ b, blk P.ws = some b → b < H4.length ∧ b ≠ mb := fun b hb' => ⟨e4.sw.lt hb', by rintro rfl; exact hwm hb'⟩
    have clt : ∀ b, blk P.cs = some b → b < H4.length ∧ b ≠ mb := fun b hb' => ⟨e4.sc.lt hb', by rintro rfl; exact hcm hb'⟩
    exact ⟨kp _ _ lr (Ne.symm hmr) e.hr, kp _ _ lc (Ne.symm hmc) e.hc, e.sw.keep fun b hb' o ho => kp b o (wlt b hb').1 (wlt b hb').2 ho, e.sc.keep fun b hb' o ho => kp b o (clt b hb').1 (clt b hb').2 ho, e.le⟩
  refine ⟨row, K1, x, y, z, K2, hr4, q1, x8 hm1, p1, by rw [b9 hm2 (by simp)]; rfl, ?_⟩
  rw [ybh hk] at hR
  cases hx : zjr P.en (P.L.drop k) with
  | bad c a =>
    rw [hx] at x1 hR
    obtain ⟨_, _, _, hc, ⟨k', e1⟩, _⟩ := x1
    exact ⟨0, by omega, .inr ⟨k', c, a, x, y, z, rows ++ [row], rfl, rd2 _ _ _ e1, hc, hR, by rw [List.getElem?_set_self lm2], m2, p2.keep fun b hb' o ho => by rw [List.getElem?_set_ne (by have := blk2 b hb'; omega)]; exact ho, blk2, by rw [List.length_append, (st.len).1]; simp; omega⟩⟩
  | ok s r =>
    rw [hx] at x1 hR
    obtain ⟨row', k', hrr, rfl, e1, sp, _⟩ := x1
    have hrr : row = row' := by simpa [agg] using hrr
    subst hrr
    have hsh := hx
    rw [gz hk] at hsh
    obtain ⟨s1, s2⟩ := zft hsh
    simp only [List.length_drop] at s1 s2
    have kle := e1.le
    have hlK := (List.getElem?_eq_some_iff.1 hm).1
    refine ⟨P.L.length - k' + 1, by omega, .inl ⟨k', .slice x y z, fun w => T w ∨ Iv K.length K1.length w, acc ++ [s], rows ++ [row], rfl, rd2 _ _ _ e1, by rw [List.getElem?_set_self lm2], p2.keep fun b hb' o ho => by rw [List.getElem?_set_ne (by have := blk2 b hb'; omega)]; exact ho, ?_, ?_, blk2, m2, by simp; omega, ?_, ?_⟩⟩
    · refine StsP.snoc (sp.keep fun w o hw ho => ?_) (st.keep fun w o hw ho => ?_) fun w hw hI => by have := (hT w hw).2.1; have := hI.1; omega
      · rw [List.getElem?_set_ne (by have := hw.1; omega)]
        exact p5 w o ho fun h => by have := (own.lt h).2; have := hw.1; omega
      · obtain ⟨t1, t2, t3⟩ := hT w hw
        rw [List.getElem?_set_ne (by omega)]
        exact p5 w o (m1.keep w o ho (by omega) (by omega)) t3
    · intro w hw
      rw [List.length_set]
      have hlw : w < K1.length ∧ mb < w ∧ blk ss ≠ some w := by
        rcases hw with hw | hw
        · obtain ⟨t1, t2, t3⟩ := hT w hw; have := m1.le; exact ⟨by omega, t1, t3⟩
        · have := hw.1; have := hw.2; exact ⟨by omega, by omega, fun h => by have := (own.lt h).2; omega⟩
      refine ⟨hlw.2.1, by omega, fun h => ?_⟩
      rcases p6 with h6 | ⟨j, h6, h7⟩
      · rw [h6] at h; exact hlw.2.2 h
      · rw [h6] at h; cases h; omega
    · intro rc gs hmem
      rcases List.mem_append.1 hmem with hmem | hmem
      · exact hgs rc gs hmem
      · simp at hmem; have := s2 rc gs hmem.symm; omega
    · simp only at hR
      cases hq : bg P.en P.L.length (P.L.drop k') with
      | bad c a => rw [hq] at hR; exact hR
      | ok l2 r2 => rw [hq] at hR; simp only at hR ⊢; rw [hR]; simp
theorem zue {F : Funcs} {b : pj} {Q : AEx → St → Prop} (id : Nat) (I : Nat → St → Prop) (P : St → Prop) (step : ∀ m s, I m s → WPD (D F b s) (zz4 I m (outQ id P))) (m : Nat) (s : St) (h0 : I m s) (hq : ∀ s, P s → Q (.exit id) s) : WPD (D F (.loop b) s) Q :=
  (zi0 I step m s h0).mono fun x s ⟨hx, hp⟩ => by subst hx; exact hq s hp
structure PaE (P : RP) (mb : Nat) (H4 K : Heap) (R : PR (List Stm)) (k x a : Nat) (ss : Value) (rows : List (List Value)) : Prop where
  rd : Rd P K k 0 x a
  mo : K[mb]? = some (.cells [nils, ss] 0 false)
  own : Own [] K ss 4 rows
  lo : ∀ b, blk ss = some b → mb < b
  m3 : M3 P mb H4 K
  rl : rows.length ≤ 8193
  ok : x = 0 → a = 0 ∧ ∃ T acc, R = .ok acc [] ∧ StsP K T rows acc ∧ (∀ z, T z → mb < z ∧ z < K.length ∧ blk ss ≠ some z) ∧ (∀ rc gs, Stm.lets rc gs ∈ acc → gs.length ≤ 8192) ∧ acc.length ≤ 8192
  bad : x ≠ 0 → R = .bad x a
def PaO (P : RP) (mb : Nat) (H4 : Heap) (ns : Value) (R : PR (List Stm)) (st : St) : Prop := ∃ K, (∃ j : Nat → Value, st = ⟨[j 0, ns, j 2, j 3, j 4, j 5, j 6, j 7, j 8, j 9, pt P.r, pt mb, j 12, j 13, j 14, j 15, j 16, j 17, j 18, j 19, j 20, j 21, j 22, j 23, j 24, j 25, j 26, j 27, j 28, j 29, j 30, j 31, j 32, j 33, j 34, j 35, j 36, j 37, j 38, j 39, j 40, j 41, j 42, j 43, j 44, j 45, j 46, j 47, j 48, j 49, j 50, j 51, j 52, j 53, j 54, j 55, j 56, j 57, j 58, j 59, j 60, j 61, j 62, j 63, j 64, j 65, j 66, j 67, j 68, j 69, j 70, j 71, j 72, j 73, j 74, j 75, j 76, j 77, j 78, j 79, j 80, j 81, j 82, j 83, j 84, j 85, j 86, j 87, j 88, j 89, j 90, j 91, j 92, j 93, j 94, j 95, j 96, j 97, j 98, j 99, j 100, j 101, j 102, j 103, j 104, j 105, j 106, j 107, j 108, j 109, j 110, j 111, j 112, j 113, j 114, j 115, j 116, j 117, j 118, j 119, j 120, j 121, j 122, j 123, j 124, j 125, j 126, j 127, j 128, j 129, j 130], K⟩) ∧ ∃ k x a ss rows, PaE P mb H4 K R k x a ss rows
end Go.Proofs.YtljdbheclfaloaaGreatDoor.AM
namespace Go.Proofs.YtljdbheclfaloaaGreatDoor.AM
open Go.RowKit
set_option linter.unusedSimpArgs false
set_option linter.unusedVariables false
set_option maxRecDepth 20000

def ChkR (P : RP) (i : Nat) (S : Nat → Prop) (v : Value) (pl : Nat) (h' : Heap) : CR Ex → Prop
  | .ok e' => TreeP h' S v e' ∧ e'.pl = pl ∧ Rd P h' i 0 0 0
  | .bad c a => c ≠ 0 ∧ (∃ e', TreeP h' S v e' ∧ e'.pl = pl) ∧ Rd P h' i 0 c a
def ze6 (P : RP) (kn : Kn) (rc : List Bys) (rt : Bool) (e : Ex) : Prop := ∀ (hb h : Heap) (i0 i q km n : Nat) (rm : Value) (S : Nat → Prop) (v : Value), Rd P hb i0 0 0 0 → Rd P h i 0 0 0 → Ch P h q km rm n kn rc → TreeP h S v e → Cl P hb q km rm S → (∀ z, S z → z < h.length) →
  ∃ h', DF FF xl [pt q, v, .bool rt] h = some (tup [], h') ∧ ChkR P i S v e.pl h' (chkE kn rc rt e) ∧ Kp P S h h'
theorem ChkR.fin {P : RP} {i pl : Nat} {S : Nat → Prop} {v : Value} {h H : Heap} {R : CR Ex} (eh : Rd P h i 0 0 0) (k : Kp P S h H) (hS : ∀ z, S z → z < h.length) (r : ChkR P i S v pl H R) (w : Value) : ChkR P i S v pl (AM.finish h w H) R ∧ Kp P S h (AM.finish h w H) := by
  rcases pz h H w with hf | ⟨hf, hk⟩
  · rw [hf]; exact ⟨r, k⟩
  · rw [hf]
    have g : ∀ b o, b < h.length → H[b]? = some o → h[b]? = some o := fun b o hb ho => by
      rw [← hk, List.getElem?_take, if_pos hb]; exact ho
    have rd : ∀ x a, Rd P H i 0 x a → Rd P h i 0 x a := fun x a e =>
      ⟨g _ _ eh.lr e.hr, g _ _ eh.lc e.hc, eh.sw, eh.sc, eh.le⟩
    refine ⟨?_, Kp.refl P S h⟩
    cases R with
    | ok e' => exact ⟨r.1.keep fun b o hb ho => g b o (hS b hb) ho, r.2.1, rd _ _ r.2.2⟩
    | bad c a =>
      obtain ⟨hc, ⟨e', t, hp⟩, e⟩ := r
      exact ⟨hc, ⟨e', t.keep fun b o hb ho => g b o (hS b hb) ho, hp⟩, rd _ _ e⟩
theorem jg (op w : Bys) (a : Nat) (l r : Value) (s : Bool) : (vm op w a l r s)[0]? = some (str op) := rfl
theorem zg7 (op w : Bys) (a : Nat) (l r : Value) (s : Bool) : (vm op w a l r s)[1]? = some (str w) := rfl
theorem q9 (op w : Bys) (a : Nat) (l r : Value) (s : Bool) : (vm op w a l r s)[3]? = some l := rfl
theorem q8 (op w : Bys) (a : Nat) (l r : Value) (s : Bool) : (vm op w a l r s)[4]? = some r := rfl
theorem zbm (op w : Bys) (a : Nat) (l r : Value) (s : Bool) : (vm op w a l r s)[5]? = some (.bool s) := rfl
theorem zit (op w : Bys) (a : Nat) (l r : Value) (s t : Bool) : (vm op w a l r s).set 5 (.bool t) = vm op w a l r t := rfl
theorem Rd.node {P : RP} {hb h : Heap} {i i' x a x' a' d d' b : Nat} (e0 : Rd P hb i d x a) (e : Rd P h i' d' x' a') (hlb : hb.length ≤ b) (o : AObj) : Rd P (h.set b o) i' d' x' a' := e0.upd e hlb o
theorem Kp.set {P : RP} {S : Nat → Prop} {h h' : Heap} {b : Nat} (k : Kp P S h h') (hb : S b) (o : AObj) : Kp P S h (h'.set b o) :=
  ⟨fun c o' ho n1 n2 => by rw [List.getElem?_set_ne (by rintro rfl; exact n1 hb)]; exact k.keep c o' ho n1 n2, by rw [List.length_set]; exact k.le⟩
set_option maxHeartbeats 4000000 in
theorem zu2 (P : RP) (kn : Kn) (rc : List Bys) (s : Bool) (a : Nat) (w : Bys) (rt : Bool) : ze6 P kn rc rt (.name s a w) := by
  intro hb h i0 i q km n rm S v e0 eh ch tr cl hS
  obtain ⟨b, rfl, hbS, hbo⟩ := tr
  have : ∃ v h', DF FF xl [pt q, pt b, .bool rt] h = some (v, h') ∧ (v = tup [] ∧ ChkR P i S (pt b) a h' (chkE kn rc rt (.name s a w)) ∧ Kp P S h h') := by
    refine wx qo ?_
    obtain ⟨h0, hh0⟩ : ∃ h0, h0 = h ++ [AObj.cells [pt q] 0 false] := ⟨_, rfl⟩
    have eh0 : Rd P h0 i 0 0 0 := by rw [hh0]; exact eh.more _
    have k0 : Kp P S h h0 := by rw [hh0]; exact Kp.add _ _ _ _
    have hbb : h0[h.length]? = some (.cells [pt q] 0 false) := by rw [hh0]; simp
    have ch0 := ch.kp eh k0 cl.q cl.k cl.r
    have hn : h0[b]? = some (.cells (vm zf0 w a nilP nilP s) 0 false) := by rw [hh0]; exact y6 _ hbo
    have rb : ∀ j, Heap.read1 h0 ⟨b, j, some 0⟩ = (vm zf0 w a nilP nilP s)[j]? := fun j => x8 hn
    have rq : ∀ j, Heap.read1 h0 ⟨q, j, some 0⟩ = ([pt P.r, .map (some km), rm, .int .i64 (n : Int)] : List Value)[j]? := fun j => x8 ch0.cq
    have rbb : ∀ j, Heap.read1 h0 ⟨h.length, j, some 0⟩ = ([pt q] : List Value)[j]? := fun j => x8 hbb
    have nil1 := fun rt => zfw (q := q) eh0 rt
    have lk := zfb h0 ch0.ck (.bool false) true (w := w) (zrh kn w)
    have lr : znn h0 .str (.bool false) false rm (str w) = some (.bool (rc.contains w), h0) := by
      rcases ch0.cr with ⟨h1, h2⟩ | ⟨b', h1, h2⟩
      · rw [h1, h2, yce]; rfl
      · rw [h1]
        rw [zfb h0 h2 (.bool false) false (w := w) (zzw rc w)]
        cases rc.contains w <;> rfl
    have wb : ∀ (K : Heap) (t : Bool), K[b]? = some (.cells (vm zf0 w a nilP nilP s) 0 false) → Heap.write1 K ⟨b, 5, some 0⟩ (.bool t) = some (K.set b (.cells (vm zf0 w a nilP nilP t) 0 false)) := fun K t hK => by rw [b9 hK (by simp [vm]), zit]
    have fin : ∀ (K : Heap) (t : Bool) (x p : Nat), Rd P K i 0 x p → Kp P S h K → K[b]? = some (.cells (vm zf0 w a nilP nilP s) 0 false) → (x = 0 → p = 0) → ∀ R, (R = if x = 0 then CR.ok (.name t a w) else .bad x p) → ChkR P i S (pt b) a (K.set b (.cells (vm zf0 w a nilP nilP t) 0 false)) R ∧ Kp P S h (K.set b (.cells (vm zf0 w a nilP nilP t) 0 false)) := by
      intro K t x p eK kK hK hx R hR
      have hlt := (List.getElem?_eq_some_iff.1 hK).1
      have tr : TreeP (K.set b (.cells (vm zf0 w a nilP nilP t) 0 false)) S (pt b) (.name t a w) := ⟨b, rfl, hbS, List.getElem?_set_self hlt⟩
      refine ⟨?_, kK.set hbS _⟩
      rw [hR]
      by_cases h0 : x = 0
      · subst h0
        obtain rfl := hx rfl
        exact ⟨tr, rfl, e0.node eK (cl.lo b hbS) _⟩
      · rw [if_neg h0]
        exact ⟨h0, ⟨_, tr, rfl⟩, e0.node eK (cl.lo b hbS) _⟩
    have cb : (b = P.r) = False := by have := cl.lo b hbS; have := e0.lr; simp; omega
    have cc : (b = P.c) = False := by have := cl.lo b hbS; have := e0.lc; simp; omega
    cases hl : jo kn w with
    | none =>
      rw [hl] at lk
      obtain ⟨K, f, eK, mK⟩ := zje eh0 40 a (by omega)
      simp only [Int.cast_ofNat_Int] at f
      have kK : Kp P S h K := (k0.trans (mK.kp fun o ho => by rw [eK.hc, ← eh0.hc]; exact ho)).weak fun z hz => hz.elim id False.elim
      have hK := mK.keep _ _ hn (by rw [ne_eq, cb]; exact not_false) (by rw [ne_eq, cc]; exact not_false)
      obtain ⟨f1, f2⟩ := fin K false 40 a eK kK hK (by omega) (chkE kn rc rt (.name s a w)) (by rw [chkE, hl]; rfl)
      have ff := ChkR.fin eh f2 hS f1
      simp only [Option.map_none, zg1, if_true] at lk
      cases rt
      · simp only [yw, ya, zt, ym, zb, zz, zw, yb, zm, yi, zc, zp, y4, zo, zf, ze, zd, List.set_cons_succ, List.set_cons_zero, O_mv, y0, xi, yy, yg, O_un, ye, List.map_cons, List.map_nil, zx, zk, qe, List.cons_append, List.nil_append, List.length_cons, List.length_nil, Nat.reduceAdd, Nat.reduceSub, Nat.zero_add, Bool.not_true, Bool.not_false, zn, yc, zy, za, zi, w6, xa, z7, xj, y8, zl, xb, fc, zq, zj, zh, zg, Nat.add_zero, List.getElem?_cons_zero, List.getElem?_cons_succ, Bool.bne_false, beq_self_eq_true, jw, eq_self, zs, yj, va, laid, zs, ← hh0, xm, xp, rbb, rq, ok_0 eh0, rb, jg, zg7, fz, q9, q8, nil1, gw, zf0, yc3, gf, lk, f, wb K false hK, wn]
        exact ⟨trivial, ff _⟩
      · simp only [yw, ya, zt, ym, zb, zz, zw, yb, zm, yi, zc, zp, y4, wq, zo, zf, ze, zd, List.set_cons_succ, List.set_cons_zero, O_mv, y0, xi, yy, yg, O_un, ye, List.map_cons, List.map_nil, zx, zk, qe, List.cons_append, List.nil_append, List.length_cons, List.length_nil, Nat.reduceAdd, Nat.reduceSub, Nat.zero_add, Bool.not_true, Bool.not_false, zn, yc, zy, za, zi, w6, xa, z7, xj, y8, zl, xb, fc, zq, zj, zh, zg, Nat.add_zero, List.getElem?_cons_zero, List.getElem?_cons_succ, Bool.bne_false, beq_self_eq_true, jw, eq_self, zs, yj, va, laid, zs, ← hh0, xm, xp, rbb, rq, ok_0 eh0, rb, jg, zg7, fz, q9, q8, nil1, gw, zf0, gf, lk, f, wb K false hK, wn]
        exact ⟨trivial, ff _⟩
    | some t =>
      rw [hl] at lk
      simp only [Option.map_some, zg1, if_true] at lk
      cases hm : (rt && rc.contains w)
      · obtain ⟨f1, f2⟩ := fin h0 t 0 0 eh0 k0 hn (fun _ => rfl) (chkE kn rc rt (.name s a w)) (by rw [chkE, hl]; simp only [hm]; rfl)
        have ff := ChkR.fin eh f2 hS f1
        cases rt
        · simp only [yw, ya, zt, ym, zb, zz, zw, yb, zm, yi, zc, zp, y4, vw, zo, zf, ze, zd, List.set_cons_succ, List.set_cons_zero, O_mv, y0, xi, yy, yg, O_un, ye, List.map_cons, List.map_nil, zx, zk, qe, List.cons_append, List.nil_append, List.length_cons, List.length_nil, Nat.reduceAdd, Nat.reduceSub, Nat.zero_add, Bool.not_true, zn, yc, zy, za, zi, w6, xa, z7, xj, y8, zl, xb, fc, zq, zj, zh, zg, Nat.add_zero, List.getElem?_cons_zero, List.getElem?_cons_succ, Bool.bne_false, beq_self_eq_true, jw, eq_self, zs, yj, va, laid, zs, ← hh0, xm, xp, rbb, rq, ok_0 eh0, rb, jg, zg7, q9, q8, nil1, gw, zf0, yc3, gf, lk, wb h0 t hn, wn]
          exact ⟨trivial, ff _⟩
        · rw [Bool.true_and] at hm
          simp only [yw, ya, zt, ym, zb, zz, zw, yb, zm, yi, zc, zp, xx, y4, wq, zo, zf, ze, zd, List.set_cons_succ, List.set_cons_zero, O_mv, y0, xi, yy, yg, O_un, ye, List.map_cons, List.map_nil, zx, zk, qe, List.cons_append, List.nil_append, List.length_cons, List.length_nil, Nat.reduceAdd, Nat.reduceSub, Nat.zero_add, Bool.not_true, zn, yc, zy, za, zi, w6, xa, z7, xj, y8, zl, xb, fc, zq, zj, zh, zg, Nat.add_zero, List.getElem?_cons_zero, List.getElem?_cons_succ, Bool.bne_false, beq_self_eq_true, jw, eq_self, zs, yj, va, laid, zs, ← hh0, xm, xp, rbb, rq, ok_0 eh0, rb, jg, zg7, q9, q8, nil1, gw, zf0, gf, lk, lr, hm, wb h0 t hn, wn]
          exact ⟨trivial, ff _⟩
      · obtain ⟨K, f, eK, mK⟩ := zje eh0 43 a (by omega)
        simp only [Int.cast_ofNat_Int] at f
        have kK : Kp P S h K := (k0.trans (mK.kp fun o ho => by rw [eK.hc, ← eh0.hc]; exact ho)).weak fun z hz => hz.elim id False.elim
        have hK := mK.keep _ _ hn (by rw [ne_eq, cb]; exact not_false) (by rw [ne_eq, cc]; exact not_false)
        obtain ⟨f1, f2⟩ := fin K t 43 a eK kK hK (by omega) (chkE kn rc rt (.name s a w)) (by rw [chkE, hl]; simp only [hm]; rfl)
        have ff := ChkR.fin eh f2 hS f1
        rw [Bool.and_eq_true] at hm
        obtain ⟨rfl, hm⟩ := hm
        simp only [yw, ya, zt, ym, zb, zz, zw, yb, zm, yi, zc, zp, xx, y4, wq, zo, zf, ze, zd, List.set_cons_succ, List.set_cons_zero, O_mv, y0, xi, yy, yg, O_un, ye, List.map_cons, List.map_nil, zx, zk, qe, List.cons_append, List.nil_append, List.length_cons, List.length_nil, Nat.reduceAdd, Nat.reduceSub, Nat.zero_add, Bool.not_true, zn, yc, zy, za, zi, w6, xa, z7, xj, y8, zl, xb, fc, zq, zj, zh, zg, Nat.add_zero, List.getElem?_cons_zero, List.getElem?_cons_succ, Bool.bne_false, beq_self_eq_true, jw, eq_self, zs, yj, va, laid, zs, ← hh0, xm, xp, rbb, rq, ok_0 eh0, rb, jg, zg7, fz, q9, q8, nil1, gw, zf0, gf, lk, lr, hm, f, wb K t hK, wn]
        exact ⟨trivial, ff _⟩
  obtain ⟨v, h', r, rfl, g⟩ := this
  exact ⟨h', r, g⟩
end Go.Proofs.YtljdbheclfaloaaGreatDoor.AM
namespace Go.Proofs.YtljdbheclfaloaaGreatDoor.AM
open Go.RowKit
set_option linter.unusedSimpArgs false
set_option linter.unusedVariables false
set_option maxRecDepth 20000

theorem zvd (P : RP) (kn : Kn) (rc : List Bys) (a : Nat) (rt : Bool) : ze6 P kn rc rt (.zero a) := by
  intro hb h i0 i q km n rm S v e0 eh ch tr cl hS
  obtain ⟨b, rfl, hbS, hbo⟩ := tr
  have : ∃ v h', DF FF xl [pt q, pt b, .bool rt] h = some (v, h') ∧ (v = tup [] ∧ ChkR P i S (pt b) a h' (chkE kn rc rt (.zero a)) ∧ Kp P S h h') := by
    refine wx qo ?_
    obtain ⟨h0, hh0⟩ : ∃ h0, h0 = h ++ [AObj.cells [pt q] 0 false] := ⟨_, rfl⟩
    have eh0 : Rd P h0 i 0 0 0 := by rw [hh0]; exact eh.more _
    have k0 : Kp P S h h0 := by rw [hh0]; exact Kp.add _ _ _ _
    have hbb : h0[h.length]? = some (.cells [pt q] 0 false) := by rw [hh0]; simp
    have lh0 : h.length < h0.length := by rw [hh0]; simp
    have ch0 := ch.kp eh k0 cl.q cl.k cl.r
    have hn : h0[b]? = some (.cells (vm [48] [] a nilP nilP false) 0 false) := by rw [hh0]; exact y6 _ hbo
    have rb : ∀ j, Heap.read1 h0 ⟨b, j, some 0⟩ = (vm [48] [] a nilP nilP false)[j]? := fun j => x8 hn
    have rq : ∀ j, Heap.read1 h0 ⟨q, j, some 0⟩ = ([pt P.r, .map (some km), rm, .int .i64 (n : Int)] : List Value)[j]? := fun j => x8 ch0.cq
    have rbb : ∀ j, Heap.read1 h0 ⟨h.length, j, some 0⟩ = ([pt q] : List Value)[j]? := fun j => x8 hbb
    have nil1 := fun rt => zfw (q := q) eh0 rt
    have f1 : ChkR P i S (pt b) a h0 (chkE kn rc rt (.zero a)) := ⟨⟨b, rfl, hbS, hn⟩, rfl, eh0⟩
    have ff := ChkR.fin eh k0 hS f1
    cases rt
    · simp only [yw, ya, zt, ym, zb, zw, yb, zm, yi, zc, y4, zo, zf, ze, zd, List.set_cons_succ, List.set_cons_zero, O_mv, y0, xi, yy, yg, O_un, ye, List.map_cons, List.map_nil, zx, zk, qe, List.cons_append, List.nil_append, List.length_cons, List.length_nil, Nat.reduceAdd, Nat.reduceSub, Nat.zero_add, Bool.not_true, zn, yc, zy, za, zi, w6, xa, z7, zq, zj, zh, zg, Nat.add_zero, List.getElem?_cons_zero, Bool.bne_false, jw, eq_self, zs, yj, va, laid, zs, ← hh0, xm, xp, rbb, rq, ok_0 eh0, rb, jg, q9, q8, nil1, gw, zs5, zri, zsy, zsi, zre, zq4, zrt, zry, zrm, zsx, zn8, zoc, wn]
      exact ⟨trivial, ff _⟩
    · simp only [yw, ya, zt, ym, zb, zw, yb, zm, yi, zc, y4, wq, zo, zf, ze, zd, List.set_cons_succ, List.set_cons_zero, O_mv, y0, xi, yy, yg, O_un, ye, List.map_cons, List.map_nil, zx, zk, qe, List.cons_append, List.nil_append, List.length_cons, List.length_nil, Nat.reduceAdd, Nat.reduceSub, Nat.zero_add, Bool.not_true, zn, yc, zy, za, zi, w6, xa, z7, zq, zj, zh, zg, Nat.add_zero, List.getElem?_cons_zero, Bool.bne_false, jw, eq_self, zs, yj, va, laid, zs, ← hh0, xm, xp, rbb, rq, ok_0 eh0, rb, jg, q9, q8, nil1, gw, zs5, zri, zsy, zsi, zre, zq4, zrt, zry, zrm, zsx, zn8, zoc, wn]
      exact ⟨trivial, ff _⟩
  obtain ⟨v, h', r, rfl, g⟩ := this
  exact ⟨h', r, g⟩
structure One (P : RP) (h h0 h1 : Heap) (i q km n b bx x c : Nat) (rm : Value) (kn : Kn) (rc : List Bys) (S : Nat → Prop) (op : Bys) (a : Nat) (rv : Value) (s t : Bool) (pl : Nat) : Prop where
  rd : Rd P h1 i 0 x c
  kp : Kp P S h h1
  cq : h1[q]? = some (.cells [pt P.r, .map (some km), rm, .int .i64 (n : Int)] 0 false)
  bb : h1[h.length]? = some (.cells [pt q] 0 false)
  nd : h1[b]? = some (.cells (vm op [] a (pt bx) rv s) 0 false)
  ch : ∃ op' w' l' r', h1[bx]? = some (.cells (vm op' w' pl l' r' t) 0 false)
def OneR (h1 : Heap) (S' : Nat → Prop) (bx pl x c : Nat) (t : Bool) : CR Ex → Prop
  | .ok e' => x = 0 ∧ c = 0 ∧ t = e'.set ∧ TreeP h1 S' (pt bx) e' ∧ e'.pl = pl
  | .bad x' c' => x ≠ 0 ∧ x = x' ∧ c = c' ∧ ∃ e', TreeP h1 S' (pt bx) e' ∧ e'.pl = pl
theorem ztf {P : RP} {hb h h0 h1 : Heap} {i0 i q km n b : Nat} {rm xv : Value} {kn : Kn} {rc : List Bys} {S S' : Nat → Prop} {op : Bys} {a : Nat} {rv : Value} {s : Bool} {e : Ex} {R : CR Ex} (e0 : Rd P hb i0 0 0 0) (eh : Rd P h i 0 0 0) (eh0 : Rd P h0 i 0 0 0) (k0 : Kp P S h h0) (hbb : h0[h.length]? = some (.cells [pt q] 0 false)) (ch0 : Ch P h0 q km rm n kn rc)
    (hn : h0[b]? = some (.cells (vm op [] a xv rv s) 0 false)) (cl : Cl P hb q km rm S) (hS : ∀ z, S z → z < h.length) (hbS : S b) (hs : ∀ y, S' y → S y ∧ y ≠ b) (r1 : ChkR P i S' xv e.pl h1 R) (k1 : Kp P S' h0 h1) :
    ∃ bx x c t, xv = pt bx ∧ One P h h0 h1 i q km n b bx x c rm kn rc S op a rv s t e.pl ∧ OneR h1 S' bx e.pl x c t R := by
  have nr : ∀ z, hb.length ≤ z → z ≠ P.r := fun z hz => by have := e0.lr; omega
  have kp : Kp P S h h1 := (k0.trans k1).weak fun z hz => hz.elim id fun h => (hs z h).1
  have ch1 := ch0.kp eh0 k1 (fun h => cl.q (hs _ h).1) (fun h => cl.k (hs _ h).1) (fun b hb h => cl.r b hb (hs _ h).1)
  have bb1 := k1.keep _ _ hbb (fun h => by have := hS _ (hs _ h).1; omega) (by have := eh.lr; omega)
  have nd1 := k1.keep _ _ hn (fun h => (hs _ h).2 rfl) (nr b (cl.lo b hbS))
  cases R with
  | ok e' =>
    obtain ⟨t, hp, e1⟩ := r1
    obtain ⟨bx, op', w', l', r', rfl, _, hbx⟩ := t.root
    rw [hp] at hbx
    exact ⟨bx, 0, 0, e'.set, rfl, ⟨e1, kp, ch1.cq, bb1, nd1, _, _, _, _, hbx⟩, rfl, rfl, rfl, t, hp⟩
  | bad x c =>
    obtain ⟨hx, ⟨e', t, hp⟩, e1⟩ := r1
    obtain ⟨bx, op', w', l', r', rfl, _, hbx⟩ := t.root
    rw [hp] at hbx
    exact ⟨bx, x, c, e'.set, rfl, ⟨e1, kp, ch1.cq, bb1, nd1, _, _, _, _, hbx⟩, hx, rfl, rfl, e', t, hp⟩
set_option maxHeartbeats 4000000 in
theorem zyk (P : RP) (kn : Kn) (rc : List Bys) (s : Bool) (a : Nat) (e : Ex) (rt : Bool) (ih : ze6 P kn rc rt e) : ze6 P kn rc rt (.par s a e) := by
  intro hb h i0 i q km n rm S v e0 eh ch tr cl hS
  obtain ⟨b, S', xv, rfl, hbS, hbo, tx, hs⟩ := tr
  have : ∃ v h', DF FF xl [pt q, pt b, .bool rt] h = some (v, h') ∧ (v = tup [] ∧ ChkR P i S (pt b) (a) h' (chkE kn rc rt (.par s a e)) ∧ Kp P S h h') := by
    refine wx qo ?_
    obtain ⟨h0, hh0⟩ : ∃ h0, h0 = h ++ [AObj.cells [pt q] 0 false] := ⟨_, rfl⟩
    have eh0 : Rd P h0 i 0 0 0 := by rw [hh0]; exact eh.more _
    have k0 : Kp P S h h0 := by rw [hh0]; exact Kp.add _ _ _ _
    have hbb : h0[h.length]? = some (.cells [pt q] 0 false) := by rw [hh0]; simp
    have lh0 : h.length < h0.length := by rw [hh0]; simp
    have ch0 := ch.kp eh k0 cl.q cl.k cl.r
    have hn : h0[b]? = some (.cells (vm [40] [] a xv nilP s) 0 false) := by rw [hh0]; exact y6 _ hbo
    have rb : ∀ j, Heap.read1 h0 ⟨b, j, some 0⟩ = (vm [40] [] a xv nilP s)[j]? := fun j => x8 hn
    have rq : ∀ j, Heap.read1 h0 ⟨q, j, some 0⟩ = ([pt P.r, .map (some km), rm, .int .i64 (n : Int)] : List Value)[j]? := fun j => x8 ch0.cq
    have rbb : ∀ j, Heap.read1 h0 ⟨h.length, j, some 0⟩ = ([pt q] : List Value)[j]? := fun j => x8 hbb
    obtain ⟨h1, q1, r1, k1⟩ := ih hb h0 i0 i q km n rm S' xv e0 eh0 ch0 (tx.keep fun c o hc ho => by rw [hh0]; exact y6 _ ho) (cl.weak fun z hz => (hs z hz).1) (fun z hz => by have := hS z (hs z hz).1; omega)
    obtain ⟨bx, x, c, t, rfl, O, hR⟩ := ztf e0 eh eh0 k0 hbb ch0 hn cl hS hbS hs r1 k1
    have eh1 := O.rd
    have nil1 := fun rt => zfw (q := q) eh1 rt
    have rb1 : ∀ j, Heap.read1 h1 ⟨b, j, some 0⟩ = (vm [40] [] (a) (pt bx) nilP s)[j]? := fun j => x8 O.nd
    have rq1 : ∀ j, Heap.read1 h1 ⟨q, j, some 0⟩ = ([pt P.r, .map (some km), rm, .int .i64 (n : Int)] : List Value)[j]? := fun j => x8 O.cq
    have rbb1 : ∀ j, Heap.read1 h1 ⟨h.length, j, some 0⟩ = ([pt q] : List Value)[j]? := fun j => x8 O.bb
    obtain ⟨op', w', l', r', hx⟩ := O.ch
    cases hc : chkE kn rc rt e with
    | bad ec ea =>
      rw [hc] at hR
      obtain ⟨hx0, rfl, rfl, e', te, hp⟩ := hR
      have hRR : chkE kn rc rt (.par s a e) = .bad x c := by rw [chkE, hc]
      have f1 : ChkR P i S (pt b) (a) h1 (chkE kn rc rt (.par s a e)) := by rw [hRR]; exact ⟨hx0, ⟨.par s a e', ⟨b, S', pt bx, rfl, hbS, O.nd, te, hs⟩, rfl⟩, eh1⟩
      have ff := ChkR.fin eh O.kp hS f1
      cases rt
      · simp only [yw, ya, zt, xc, ym, zb, zz, zw, yb, zm, yi, zc, y4, zo, zf, ze, zd, List.set_cons_succ, List.set_cons_zero, O_mv, y0, xi, yy, yg, O_un, ye, List.map_cons, List.map_nil, zx, zk, qe, List.cons_append, List.nil_append, List.length_cons, List.length_nil, Nat.reduceAdd, Nat.reduceSub, Nat.zero_add, Bool.not_true, Bool.not_false, zn, yc, za, y9, w6, xa, z7, zq, zj, zh, zg, Nat.add_zero, List.getElem?_cons_zero, Bool.bne_false, jw, eq_self, zs, yj, va, laid, zs, ← hh0, xm, xp, rbb, rq, ok_0 eh0, rb, jg, q9, q8, q1, nil1, rb1, rq1, rbb1, zyj, fe eh1 hx0, zey]
        exact ⟨trivial, ff _⟩
      · simp only [yw, ya, zt, xc, ym, zb, zz, zw, yb, zm, yi, zc, y4, wq, zo, zf, ze, zd, List.set_cons_succ, List.set_cons_zero, O_mv, y0, xi, yg, O_un, ye, List.map_cons, List.map_nil, zx, zk, qe, List.cons_append, List.nil_append, List.length_cons, List.length_nil, Nat.reduceAdd, Nat.reduceSub, Nat.zero_add, Bool.not_true, Bool.not_false, zn, yc, za, y9, w6, xa, z7, zq, zj, zh, zg, Nat.add_zero, List.getElem?_cons_zero, Bool.bne_false, jw, eq_self, zs, yj, laid, zs, ← hh0, xm, xp, rbb, rq, ok_0 eh0, rb, q9, q8, q1, nil1, rb1, rq1, rbb1, fe eh1 hx0, zey]
        exact ⟨trivial, ff _⟩
    | ok e' =>
      rw [hc] at hR
      obtain ⟨rfl, rfl, rfl, te, hp⟩ := hR
      have hRR : chkE kn rc rt (.par s a e) = .ok (.par e'.set a e') := by rw [chkE, hc]
      have rx : Heap.read1 h1 ⟨bx, 5, some 0⟩ = some (.bool e'.set) := x8 hx
      have lb := (List.getElem?_eq_some_iff.1 O.nd).1
      have wb : Heap.write1 h1 ⟨b, 5, some 0⟩ (.bool e'.set) = some (h1.set b (.cells (vm [40] [] a (pt bx) nilP e'.set) 0 false)) := by rw [b9 O.nd (by simp [vm]), zit]
      have f1 : ChkR P i S (pt b) a (h1.set b (.cells (vm [40] [] a (pt bx) nilP e'.set) 0 false)) (chkE kn rc rt (.par s a e)) := by
        rw [hRR]
        exact ⟨⟨b, S', pt bx, rfl, hbS, List.getElem?_set_self lb, te.keep fun z o hz ho => by rw [List.getElem?_set_ne (Ne.symm (hs z hz).2)]; exact ho, hs⟩, rfl, e0.node eh1 (cl.lo b hbS) _⟩
      have ff := ChkR.fin eh (O.kp.set hbS _) hS f1
      cases rt
      · simp only [yw, ya, zt, ym, zb, zz, zw, yb, zm, yi, zc, zp, y4, zo, zf, ze, zd, List.set_cons_succ, List.set_cons_zero, O_mv, y0, xi, yy, yg, O_un, ye, List.map_cons, List.map_nil, zx, zk, qe, List.cons_append, List.nil_append, List.length_cons, List.length_nil, Nat.reduceAdd, Nat.reduceSub, Nat.zero_add, Bool.not_true, zn, yc, zy, za, zi, w6, xa, z7, zl, xb, fc, zq, zj, zh, zg, Nat.add_zero, List.getElem?_cons_zero, Bool.bne_false, beq_self_eq_true, jw, eq_self, zs, yj, va, laid, zs, ← hh0, xm, xp, rbb, rq, ok_0 eh0, rb, jg, q9, q8, q1, nil1, rb1, rq1, rbb1, gw, zw1, ydi, ydc, zyj, ycu, ycv, yck, ok_0 eh1, rx, wb, wn]
        exact ⟨trivial, ff _⟩
      · simp only [yw, ya, zt, ym, zb, zz, zw, yb, zm, yi, zc, zp, y4, wq, zo, zf, ze, zd, List.set_cons_succ, List.set_cons_zero, O_mv, y0, xi, yy, yg, O_un, ye, List.map_cons, List.map_nil, zx, zk, qe, List.cons_append, List.nil_append, List.length_cons, List.length_nil, Nat.reduceAdd, Nat.reduceSub, Nat.zero_add, Bool.not_true, zn, yc, zy, za, zi, w6, xa, z7, zl, xb, fc, zq, zj, zh, zg, Nat.add_zero, List.getElem?_cons_zero, Bool.bne_false, beq_self_eq_true, jw, eq_self, zs, yj, va, laid, zs, ← hh0, xm, xp, rbb, rq, ok_0 eh0, rb, jg, q9, q8, q1, nil1, rb1, rq1, rbb1, gw, zw1, ydi, ydc, zyj, ycu, ycv, yck, ok_0 eh1, rx, wb, wn]
        exact ⟨trivial, ff _⟩
  obtain ⟨v, h', r, rfl, g⟩ := this
  exact ⟨h', r, g⟩
set_option maxHeartbeats 4000000 in
theorem zxj (P : RP) (kn : Kn) (rc : List Bys) (a : Nat) (e : Ex) (rt : Bool) (ih : ze6 P kn rc rt e) : ze6 P kn rc rt (.box a e) := by
  intro hb h i0 i q km n rm S v e0 eh ch tr cl hS
  obtain ⟨b, S', xv, rfl, hbS, hbo, tx, hs⟩ := tr
  have : ∃ v h', DF FF xl [pt q, pt b, .bool rt] h = some (v, h') ∧ (v = tup [] ∧ ChkR P i S (pt b) (a) h' (chkE kn rc rt (.box a e)) ∧ Kp P S h h') := by
    refine wx qo ?_
    obtain ⟨h0, hh0⟩ : ∃ h0, h0 = h ++ [AObj.cells [pt q] 0 false] := ⟨_, rfl⟩
    have eh0 : Rd P h0 i 0 0 0 := by rw [hh0]; exact eh.more _
    have k0 : Kp P S h h0 := by rw [hh0]; exact Kp.add _ _ _ _
    have hbb : h0[h.length]? = some (.cells [pt q] 0 false) := by rw [hh0]; simp
    have lh0 : h.length < h0.length := by rw [hh0]; simp
    have ch0 := ch.kp eh k0 cl.q cl.k cl.r
    have hn : h0[b]? = some (.cells (vm [91] [] a xv nilP false) 0 false) := by rw [hh0]; exact y6 _ hbo
    have rb : ∀ j, Heap.read1 h0 ⟨b, j, some 0⟩ = (vm [91] [] a xv nilP false)[j]? := fun j => x8 hn
    have rq : ∀ j, Heap.read1 h0 ⟨q, j, some 0⟩ = ([pt P.r, .map (some km), rm, .int .i64 (n : Int)] : List Value)[j]? := fun j => x8 ch0.cq
    have rbb : ∀ j, Heap.read1 h0 ⟨h.length, j, some 0⟩ = ([pt q] : List Value)[j]? := fun j => x8 hbb
    obtain ⟨h1, q1, r1, k1⟩ := ih hb h0 i0 i q km n rm S' xv e0 eh0 ch0 (tx.keep fun c o hc ho => by rw [hh0]; exact y6 _ ho) (cl.weak fun z hz => (hs z hz).1) (fun z hz => by have := hS z (hs z hz).1; omega)
    obtain ⟨bx, x, c, t, rfl, O, hR⟩ := ztf e0 eh eh0 k0 hbb ch0 hn cl hS hbS hs r1 k1
    have eh1 := O.rd
    have nil1 := fun rt => zfw (q := q) eh1 rt
    have rb1 : ∀ j, Heap.read1 h1 ⟨b, j, some 0⟩ = (vm [91] [] (a) (pt bx) nilP false)[j]? := fun j => x8 O.nd
    have rq1 : ∀ j, Heap.read1 h1 ⟨q, j, some 0⟩ = ([pt P.r, .map (some km), rm, .int .i64 (n : Int)] : List Value)[j]? := fun j => x8 O.cq
    have rbb1 : ∀ j, Heap.read1 h1 ⟨h.length, j, some 0⟩ = ([pt q] : List Value)[j]? := fun j => x8 O.bb
    obtain ⟨op', w', l', r', hx⟩ := O.ch
    cases hc : chkE kn rc rt e with
    | bad ec ea =>
      rw [hc] at hR
      obtain ⟨hx0, rfl, rfl, e', te, hp⟩ := hR
      have hRR : chkE kn rc rt (.box a e) = .bad x c := by rw [chkE, hc]
      have f1 : ChkR P i S (pt b) (a) h1 (chkE kn rc rt (.box a e)) := by rw [hRR]; exact ⟨hx0, ⟨.box a e', ⟨b, S', pt bx, rfl, hbS, O.nd, te, hs⟩, rfl⟩, eh1⟩
      have ff := ChkR.fin eh O.kp hS f1
      cases rt
      · simp only [yw, ya, zt, xc, ym, zb, zz, zw, yb, zm, yi, zc, y4, zo, zf, ze, zd, List.set_cons_succ, List.set_cons_zero, O_mv, y0, xi, yy, yg, O_un, ye, List.map_cons, List.map_nil, zx, zk, qe, List.cons_append, List.nil_append, List.length_cons, List.length_nil, Nat.reduceAdd, Nat.reduceSub, Nat.zero_add, Bool.not_true, Bool.not_false, zn, yc, za, y9, w6, xa, z7, zq, zj, zh, zg, Nat.add_zero, List.getElem?_cons_zero, Bool.bne_false, jw, eq_self, zs, yj, va, laid, zs, ← hh0, xm, xp, rbb, rq, ok_0 eh0, rb, jg, q9, q8, q1, nil1, rb1, rq1, rbb1, zmz, fe eh1 hx0, zey]
        exact ⟨trivial, ff _⟩
      · simp only [yw, ya, zt, xc, ym, zb, zz, zw, yb, zm, yi, zc, y4, wq, zo, zf, ze, zd, List.set_cons_succ, List.set_cons_zero, O_mv, y0, xi, yg, O_un, ye, List.map_cons, List.map_nil, zx, zk, qe, List.cons_append, List.nil_append, List.length_cons, List.length_nil, Nat.reduceAdd, Nat.reduceSub, Nat.zero_add, Bool.not_true, Bool.not_false, zn, yc, za, y9, w6, xa, z7, zq, zj, zh, zg, Nat.add_zero, List.getElem?_cons_zero, Bool.bne_false, jw, eq_self, zs, yj, laid, zs, ← hh0, xm, xp, rbb, rq, ok_0 eh0, rb, q9, q8, q1, nil1, rb1, rq1, rbb1, fe eh1 hx0, zey]
        exact ⟨trivial, ff _⟩
    | ok e' =>
      rw [hc] at hR
      obtain ⟨rfl, rfl, rfl, te, hp⟩ := hR
      cases hst : (e'.set == true)
      · have hRR : chkE kn rc rt (.box a e) = .bad 41 e.pl := by rw [chkE, hc]; cases h' : e'.set <;> rw [h'] at hst <;> simp_all
        obtain ⟨h2, qm, e2, m2, c2⟩ := zot eh1 O.cq O.bb hx hst
        have k2 := m2.kp fun o ho => by rw [c2]; exact ho
        have nd2 := k2.keep _ _ O.nd id (by have := cl.lo b hbS; have := e0.lr; omega)
        have f1 : ChkR P i S (pt b) (a) h2 (chkE kn rc rt (.box a e)) := by
          rw [hRR]
          exact ⟨by omega, ⟨.box a e', ⟨b, S', pt bx, rfl, hbS, nd2, te.keep fun z o hz ho => k2.keep z o ho id (by have := cl.lo z (hs z hz).1; have := e0.lr; omega), hs⟩, rfl⟩, e2⟩
        have ff := ChkR.fin eh ((O.kp.trans k2).weak fun z hz => hz.elim id False.elim) hS f1
        cases rt
        · simp only [yw, ya, zt, ym, zb, zz, zw, yb, zm, yi, zc, y4, zo, zf, ze, zd, List.set_cons_succ, List.set_cons_zero, O_mv, y0, xi, yy, yg, O_un, ye, List.map_cons, List.map_nil, zx, zk, qe, List.cons_append, List.nil_append, List.length_cons, List.length_nil, Nat.reduceAdd, Nat.reduceSub, Nat.zero_add, Bool.not_true, zn, yc, zy, za, zi, w6, xa, z7, zq, zj, zh, zg, Nat.add_zero, List.getElem?_cons_zero, Bool.bne_false, beq_self_eq_true, jw, eq_self, zs, yj, va, laid, zs, ← hh0, xm, xp, rbb, rq, ok_0 eh0, rb, jg, q9, q8, q1, nil1, rb1, rq1, rbb1, gw, bn, jl, zph, zp7, zpf, zmz, zqo, zqx, ok_0 eh1, qm, wn]
          exact ⟨trivial, ff _⟩
        · simp only [yw, ya, zt, ym, zb, zz, zw, yb, zm, yi, zc, y4, wq, zo, zf, ze, zd, List.set_cons_succ, List.set_cons_zero, O_mv, y0, xi, yy, yg, O_un, ye, List.map_cons, List.map_nil, zx, zk, qe, List.cons_append, List.nil_append, List.length_cons, List.length_nil, Nat.reduceAdd, Nat.reduceSub, Nat.zero_add, Bool.not_true, zn, yc, zy, za, zi, w6, xa, z7, zq, zj, zh, zg, Nat.add_zero, List.getElem?_cons_zero, Bool.bne_false, beq_self_eq_true, jw, eq_self, zs, yj, va, laid, zs, ← hh0, xm, xp, rbb, rq, ok_0 eh0, rb, jg, q9, q8, q1, nil1, rb1, rq1, rbb1, gw, bn, jl, zph, zp7, zpf, zmz, zqo, zqx, ok_0 eh1, qm, wn]
          exact ⟨trivial, ff _⟩
      · have hRR : chkE kn rc rt (.box a e) = .ok (.box a e') := by rw [chkE, hc]; cases h' : e'.set <;> rw [h'] at hst <;> simp_all
        have qm := zox (bb := h.length) hx
        rw [eq_of_beq hst] at qm
        have f1 : ChkR P i S (pt b) (a) h1 (chkE kn rc rt (.box a e)) := by
          rw [hRR]
          exact ⟨⟨b, S', pt bx, rfl, hbS, O.nd, te, hs⟩, rfl, eh1⟩
        have ff := ChkR.fin eh O.kp hS f1
        cases rt
        · simp only [yw, ya, zt, ym, zb, zz, zw, yb, zm, yi, zc, y4, zo, zf, ze, zd, List.set_cons_succ, List.set_cons_zero, O_mv, y0, xi, yy, yg, O_un, ye, List.map_cons, List.map_nil, zx, zk, qe, List.cons_append, List.nil_append, List.length_cons, List.length_nil, Nat.reduceAdd, Nat.reduceSub, Nat.zero_add, Bool.not_true, zn, yc, zy, za, zi, w6, xa, z7, zq, zj, zh, zg, Nat.add_zero, List.getElem?_cons_zero, Bool.bne_false, beq_self_eq_true, jw, eq_self, zs, yj, va, laid, zs, ← hh0, xm, xp, rbb, rq, ok_0 eh0, rb, jg, q9, q8, q1, nil1, rb1, rq1, rbb1, gw, bn, jl, zph, zp7, zpf, zmz, zqo, zqx, ok_0 eh1, qm, wn]
          exact ⟨trivial, ff _⟩
        · simp only [yw, ya, zt, ym, zb, zz, zw, yb, zm, yi, zc, y4, wq, zo, zf, ze, zd, List.set_cons_succ, List.set_cons_zero, O_mv, y0, xi, yy, yg, O_un, ye, List.map_cons, List.map_nil, zx, zk, qe, List.cons_append, List.nil_append, List.length_cons, List.length_nil, Nat.reduceAdd, Nat.reduceSub, Nat.zero_add, Bool.not_true, zn, yc, zy, za, zi, w6, xa, z7, zq, zj, zh, zg, Nat.add_zero, List.getElem?_cons_zero, Bool.bne_false, beq_self_eq_true, jw, eq_self, zs, yj, va, laid, zs, ← hh0, xm, xp, rbb, rq, ok_0 eh0, rb, jg, q9, q8, q1, nil1, rb1, rq1, rbb1, gw, bn, jl, zph, zp7, zpf, zmz, zqo, zqx, ok_0 eh1, qm, wn]
          exact ⟨trivial, ff _⟩
  obtain ⟨v, h', r, rfl, g⟩ := this
  exact ⟨h', r, g⟩
set_option maxHeartbeats 4000000 in
theorem yax (P : RP) (kn : Kn) (rc : List Bys) (op : Op1) (e : Ex) (rt : Bool) (ih : ze6 P kn rc rt e) : ze6 P kn rc rt (.un op e) := by
  intro hb h i0 i q km n rm S v e0 eh ch tr cl hS
  obtain ⟨b, S', xv, rfl, hbS, hbo, tx, hs⟩ := tr
  have : ∃ v h', DF FF xl [pt q, pt b, .bool rt] h = some (v, h') ∧ (v = tup [] ∧ ChkR P i S (pt b) (e.pl) h' (chkE kn rc rt (.un op e)) ∧ Kp P S h h') := by
    refine wx qo ?_
    obtain ⟨h0, hh0⟩ : ∃ h0, h0 = h ++ [AObj.cells [pt q] 0 false] := ⟨_, rfl⟩
    have eh0 : Rd P h0 i 0 0 0 := by rw [hh0]; exact eh.more _
    have k0 : Kp P S h h0 := by rw [hh0]; exact Kp.add _ _ _ _
    have hbb : h0[h.length]? = some (.cells [pt q] 0 false) := by rw [hh0]; simp
    have lh0 : h.length < h0.length := by rw [hh0]; simp
    have ch0 := ch.kp eh k0 cl.q cl.k cl.r
    have hn : h0[b]? = some (.cells (vm (op1S op) [] e.pl xv nilP false) 0 false) := by rw [hh0]; exact y6 _ hbo
    have rb : ∀ j, Heap.read1 h0 ⟨b, j, some 0⟩ = (vm (op1S op) [] e.pl xv nilP false)[j]? := fun j => x8 hn
    have rq : ∀ j, Heap.read1 h0 ⟨q, j, some 0⟩ = ([pt P.r, .map (some km), rm, .int .i64 (n : Int)] : List Value)[j]? := fun j => x8 ch0.cq
    have rbb : ∀ j, Heap.read1 h0 ⟨h.length, j, some 0⟩ = ([pt q] : List Value)[j]? := fun j => x8 hbb
    obtain ⟨h1, q1, r1, k1⟩ := ih hb h0 i0 i q km n rm S' xv e0 eh0 ch0 (tx.keep fun c o hc ho => by rw [hh0]; exact y6 _ ho) (cl.weak fun z hz => (hs z hz).1) (fun z hz => by have := hS z (hs z hz).1; omega)
    obtain ⟨bx, x, c, t, rfl, O, hR⟩ := ztf e0 eh eh0 k0 hbb ch0 hn cl hS hbS hs r1 k1
    have eh1 := O.rd
    have nil1 := fun rt => zfw (q := q) eh1 rt
    have rb1 : ∀ j, Heap.read1 h1 ⟨b, j, some 0⟩ = (vm (op1S op) [] (e.pl) (pt bx) nilP false)[j]? := fun j => x8 O.nd
    have rq1 : ∀ j, Heap.read1 h1 ⟨q, j, some 0⟩ = ([pt P.r, .map (some km), rm, .int .i64 (n : Int)] : List Value)[j]? := fun j => x8 O.cq
    have rbb1 : ∀ j, Heap.read1 h1 ⟨h.length, j, some 0⟩ = ([pt q] : List Value)[j]? := fun j => x8 O.bb
    obtain ⟨op', w', l', r', hx⟩ := O.ch
    cases hc : chkE kn rc rt e with
    | bad ec ea =>
      rw [hc] at hR
      obtain ⟨hx0, rfl, rfl, e', te, hp⟩ := hR
      have hRR : chkE kn rc rt (.un op e) = .bad x c := by rw [chkE, hc]
      have f1 : ChkR P i S (pt b) (e.pl) h1 (chkE kn rc rt (.un op e)) := by rw [hRR]; exact ⟨hx0, ⟨.un op e', ⟨b, S', pt bx, rfl, hbS, by rw [hp]; exact O.nd, te, hs⟩, hp⟩, eh1⟩
      have ff := ChkR.fin eh O.kp hS f1
      cases rt <;> cases op
      all_goals
        simp only [yw, ya, zt, xc, ym, zb, zz, zw, yb, zm, yi, zc, y4, wq, zo, zf, ze, zd, List.set_cons_succ, List.set_cons_zero, O_mv, y0, xi, yy, yg, O_un, ye, List.map_cons, List.map_nil, zx, zk, qe, List.cons_append, List.nil_append, List.length_cons, List.length_nil, Nat.reduceAdd, Nat.reduceSub, Nat.zero_add, Bool.not_true, Bool.not_false, zn, yc, za, y9, w6, xa, z7, zq, zj, zh, zg, Nat.add_zero, List.getElem?_cons_zero, Bool.bne_false, jw, eq_self, zs, yj, va, laid, zs, ← hh0, xm, xp, rbb, rq, ok_0 eh0, rb, jg, q9, q8, q1, nil1, rb1, rq1, rbb1, op1S, zuo, ztx, znz, zod, fe eh1 hx0, zey]
        exact ⟨trivial, ff _⟩
    | ok e' =>
      rw [hc] at hR
      obtain ⟨rfl, rfl, rfl, te, hp⟩ := hR
      cases hst : (e'.set == false)
      · have hRR : chkE kn rc rt (.un op e) = .bad 41 e.pl := by rw [chkE, hc]; cases h' : e'.set <;> rw [h'] at hst <;> simp_all
        obtain ⟨h2, qm, e2, m2, c2⟩ := zot eh1 O.cq O.bb hx hst
        have k2 := m2.kp fun o ho => by rw [c2]; exact ho
        have nd2 := k2.keep _ _ O.nd id (by have := cl.lo b hbS; have := e0.lr; omega)
        have f1 : ChkR P i S (pt b) (e.pl) h2 (chkE kn rc rt (.un op e)) := by
          rw [hRR]
          exact ⟨by omega, ⟨.un op e', ⟨b, S', pt bx, rfl, hbS, by rw [hp]; exact nd2, te.keep fun z o hz ho => k2.keep z o ho id (by have := cl.lo z (hs z hz).1; have := e0.lr; omega), hs⟩, hp⟩, e2⟩
        have ff := ChkR.fin eh ((O.kp.trans k2).weak fun z hz => hz.elim id False.elim) hS f1
        cases rt <;> cases op
        all_goals
          simp only [yw, ya, zt, ym, zb, zz, zw, yb, zm, yi, zc, y4, wq, zo, zf, ze, zd, List.set_cons_succ, List.set_cons_zero, O_mv, y0, xi, yy, yg, O_un, ye, List.map_cons, List.map_nil, zx, zk, qe, List.cons_append, List.nil_append, List.length_cons, List.length_nil, Nat.reduceAdd, Nat.reduceSub, Nat.zero_add, Bool.not_true, zn, yc, zy, za, zi, w6, xa, z7, zq, zj, zh, zg, Nat.add_zero, List.getElem?_cons_zero, Bool.bne_false, beq_self_eq_true, jw, eq_self, zs, yj, va, laid, zs, ← hh0, xm, xp, rbb, rq, ok_0 eh0, rb, jg, q9, q8, q1, nil1, rb1, rq1, rbb1, gw, bn, jl, op1S, zxp, zy0, zxa, zuo, zx9, zwt, zxo, zxq, zxv, zwx, zwb, ztx, zzb, zy5, zxw, zwc, zzx, zrr, zq5, zs1, znz, zsh, zrc, zsq, zrd, zr8, zs9, zs0, zrx, zr2, zod, zsk, zrz, zr9, zta, zr3, zru, znt, ok_0 eh1, qm, wn]
          exact ⟨trivial, ff _⟩
      · have hRR : chkE kn rc rt (.un op e) = .ok (.un op e') := by rw [chkE, hc]; cases h' : e'.set <;> rw [h'] at hst <;> simp_all
        have qm := zox (bb := h.length) hx
        rw [eq_of_beq hst] at qm
        have f1 : ChkR P i S (pt b) (e.pl) h1 (chkE kn rc rt (.un op e)) := by
          rw [hRR]
          exact ⟨⟨b, S', pt bx, rfl, hbS, by rw [hp]; exact O.nd, te, hs⟩, hp, eh1⟩
        have ff := ChkR.fin eh O.kp hS f1
        cases rt <;> cases op
        all_goals
          simp only [yw, ya, zt, ym, zb, zz, zw, yb, zm, yi, zc, y4, wq, zo, zf, ze, zd, List.set_cons_succ, List.set_cons_zero, O_mv, y0, xi, yy, yg, O_un, ye, List.map_cons, List.map_nil, zx, zk, qe, List.cons_append, List.nil_append, List.length_cons, List.length_nil, Nat.reduceAdd, Nat.reduceSub, Nat.zero_add, Bool.not_true, zn, yc, zy, za, zi, w6, xa, z7, zq, zj, zh, zg, Nat.add_zero, List.getElem?_cons_zero, Bool.bne_false, beq_self_eq_true, jw, eq_self, zs, yj, va, laid, zs, ← hh0, xm, xp, rbb, rq, ok_0 eh0, rb, jg, q9, q8, q1, nil1, rb1, rq1, rbb1, gw, bn, jl, op1S, zxp, zy0, zxa, zuo, zx9, zwt, zxo, zxq, zxv, zwx, zwb, ztx, zzb, zy5, zxw, zwc, zzx, zrr, zq5, zs1, znz, zsh, zrc, zsq, zrd, zr8, zs9, zs0, zrx, zr2, zod, zsk, zrz, zr9, zta, zr3, zru, znt, ok_0 eh1, qm, wn]
          exact ⟨trivial, ff _⟩
  obtain ⟨v, h', r, rfl, g⟩ := this
  exact ⟨h', r, g⟩
end Go.Proofs.YtljdbheclfaloaaGreatDoor.AM
namespace Go.Proofs.YtljdbheclfaloaaGreatDoor.AM
open Go.RowKit
set_option linter.unusedSimpArgs false
set_option linter.unusedVariables false
set_option maxRecDepth 20000

structure Two (P : RP) (h h2 : Heap) (i q km n b bx by_ x c : Nat) (rm : Value) (S : Nat → Prop) (op : Bys) (a pl pr : Nat) (s tl t : Bool) : Prop where
  rd : Rd P h2 i 0 x c
  kp : Kp P S h h2
  cq : h2[q]? = some (.cells [pt P.r, .map (some km), rm, .int .i64 (n : Int)] 0 false)
  bb : h2[h.length]? = some (.cells [pt q] 0 false)
  nd : h2[b]? = some (.cells (vm op [] a (pt bx) (pt by_) s) 0 false)
  cl : ∃ op' w' l' r', h2[bx]? = some (.cells (vm op' w' pl l' r' tl) 0 false)
  cr : ∃ op' w' l' r', h2[by_]? = some (.cells (vm op' w' pr l' r' t) 0 false)
theorem yf7 {P : RP} {hb h h0 h1 h2 : Heap} {i0 i q km n b bx : Nat} {rm yv : Value} {kn : Kn} {rc : List Bys} {S S1 S2 : Nat → Prop} {op : Bys} {a pl : Nat} {s : Bool} {l' r : Ex} {R : CR Ex} (e0 : Rd P hb i0 0 0 0) (eh : Rd P h i 0 0 0)
    (O : One P h h0 h1 i q km n b bx 0 0 rm kn rc S op a yv s l'.set pl) (tl : TreeP h1 S1 (pt bx) l') (hbx : l'.pl = pl) (cl : Cl P hb q km rm S) (hS : ∀ z, S z → z < h.length) (hbS : S b) (hs1 : ∀ z, S1 z → S z ∧ z ≠ b ∧ ¬ S2 z) (hs : ∀ y, S2 y → S y ∧ y ≠ b) (r1 : ChkR P i S2 yv r.pl h2 R) (k1 : Kp P S2 h1 h2) :
    ∃ by_ x c t, yv = pt by_ ∧ Two P h h2 i q km n b bx by_ x c rm S op a pl r.pl s l'.set t ∧ OneR h2 S2 by_ r.pl x c t R ∧ TreeP h2 S1 (pt bx) l' := by
  have nr : ∀ z, hb.length ≤ z → z ≠ P.r := fun z hz => by have := e0.lr; omega
  have kp : Kp P S h h2 := (O.kp.trans k1).weak fun z hz => hz.elim id fun h => (hs z h).1
  have nq : q ≠ P.r := by rintro rfl; have := O.rd.hr.symm.trans O.cq; simp at this
  have cq1 := k1.keep _ _ O.cq (fun h => cl.q (hs _ h).1) nq
  have bb1 := k1.keep _ _ O.bb (fun h => by have := hS _ (hs _ h).1; omega) (by have := eh.lr; omega)
  have nd1 := k1.keep _ _ O.nd (fun h => (hs _ h).2 rfl) (nr b (cl.lo b hbS))
  have tl2 : TreeP h2 S1 (pt bx) l' := tl.keep fun z o hz ho => k1.keep z o ho (hs1 z hz).2.2 (nr z (cl.lo z (hs1 z hz).1))
  obtain ⟨b', op1, w1, l1, r1', hpb, _, hbx2⟩ := tl2.root
  have hpb : bx = b' := by simpa using hpb
  subst hpb
  rw [hbx] at hbx2
  cases R with
  | ok e' =>
    obtain ⟨t, hp, e1⟩ := r1
    obtain ⟨by_, op', w', l'', r', rfl, _, hby⟩ := t.root
    rw [hp] at hby
    exact ⟨by_, 0, 0, e'.set, rfl, ⟨e1, kp, cq1, bb1, nd1, ⟨_, _, _, _, hbx2⟩, _, _, _, _, hby⟩, ⟨rfl, rfl, rfl, t, hp⟩, tl2⟩
  | bad x c =>
    obtain ⟨hx, ⟨e', t, hp⟩, e1⟩ := r1
    obtain ⟨by_, op', w', l'', r', rfl, _, hby⟩ := t.root
    rw [hp] at hby
    exact ⟨by_, x, c, e'.set, rfl, ⟨e1, kp, cq1, bb1, nd1, ⟨_, _, _, _, hbx2⟩, _, _, _, _, hby⟩, ⟨hx, rfl, rfl, e', t, hp⟩, tl2⟩
theorem zok {P : RP} {h : Heap} {i q bb : Nat} {km rm nn : Value} (e : Rd P h i 0 0 0) (hq : h[q]? = some (.cells [pt P.r, km, rm, nn] 0 false)) (hbb : h[bb]? = some (.cells [pt q] 0 false)) {b : Nat} {op w : Bys} {p : Nat} {l r : Value} {s : Bool} (t : Bool) (hb : h[b]? = some (.cells (vm op w p l r s) 0 false)) :
    ∃ h' x c, DF FF wi [pt b, .bool t, pt bb] h = some (tup [], h') ∧ Rd P h' i 0 x c ∧ Kp P (fun _ => False) h h' ∧ ((s == t) = true ∧ x = 0 ∧ c = 0 ∨ (s == t) = false ∧ x = 41 ∧ c = p) := by
  cases hst : (s == t)
  · obtain ⟨h2, qm, e2, m2, c2⟩ := zot e hq hbb hb hst
    exact ⟨h2, 41, p, qm, e2, m2.kp fun o ho => by rw [c2]; exact ho, .inr ⟨rfl, rfl, rfl⟩⟩
  · have qm := zox (bb := bb) hb
    rw [eq_of_beq hst] at qm
    exact ⟨h, 0, 0, qm, e, Kp.refl _ _ _, .inl ⟨rfl, rfl, rfl⟩⟩
set_option maxHeartbeats 8000000 in
theorem zxg (P : RP) (kn : Kn) (rc : List Bys) (s : Bool) (o : Op2) (l r : Ex) (rt : Bool) (ihl : ze6 P kn rc rt l) (ihr : ze6 P kn rc (rt || o == .minus) r) : ze6 P kn rc rt (.bin s o l r) := by
  intro hb h i0 i q km n rm S v e0 eh ch tr cl hS
  obtain ⟨b, S1, S2, xv, yv, rfl, hbS, hbo, tx, ty, hs1, hs2⟩ := tr
  have : ∃ v h', DF FF xl [pt q, pt b, .bool rt] h = some (v, h') ∧ (v = tup [] ∧ ChkR P i S (pt b) l.pl h' (chkE kn rc rt (.bin s o l r)) ∧ Kp P S h h') := by
    refine wx qo ?_
    obtain ⟨h0, hh0⟩ : ∃ h0, h0 = h ++ [AObj.cells [pt q] 0 false] := ⟨_, rfl⟩
    have eh0 : Rd P h0 i 0 0 0 := by rw [hh0]; exact eh.more _
    have k0 : Kp P S h h0 := by rw [hh0]; exact Kp.add _ _ _ _
    have hbb : h0[h.length]? = some (.cells [pt q] 0 false) := by rw [hh0]; simp
    have lh0 : h.length < h0.length := by rw [hh0]; simp
    have ch0 := ch.kp eh k0 cl.q cl.k cl.r
    have hn : h0[b]? = some (.cells (vm (op2S o) [] l.pl xv yv s) 0 false) := by rw [hh0]; exact y6 _ hbo
    have rb : ∀ j, Heap.read1 h0 ⟨b, j, some 0⟩ = (vm (op2S o) [] l.pl xv yv s)[j]? := fun j => x8 hn
    have rq : ∀ j, Heap.read1 h0 ⟨q, j, some 0⟩ = ([pt P.r, .map (some km), rm, .int .i64 (n : Int)] : List Value)[j]? := fun j => x8 ch0.cq
    have rbb : ∀ j, Heap.read1 h0 ⟨h.length, j, some 0⟩ = ([pt q] : List Value)[j]? := fun j => x8 hbb
    have nr : ∀ z, hb.length ≤ z → z ≠ P.r := fun z hz => by have := e0.lr; omega
    have ty0 : TreeP h0 S2 yv r := ty.keep fun c o hc ho => by rw [hh0]; exact y6 _ ho
    obtain ⟨h1, q1, r1, k1⟩ := ihl hb h0 i0 i q km n rm S1 xv e0 eh0 ch0 (tx.keep fun c o hc ho => by rw [hh0]; exact y6 _ ho) (cl.weak fun z hz => (hs1 z hz).1) (fun z hz => by have := hS z (hs1 z hz).1; omega)
    have ty1 : TreeP h1 S2 yv r := ty0.keep fun z o hz ho => k1.keep z o ho (fun h => (hs1 z h).2.2 hz) (nr z (cl.lo z (hs2 z hz).1))
    obtain ⟨bx, x, c, t, rfl, O, hR⟩ := ztf e0 eh eh0 k0 hbb ch0 hn cl hS hbS (fun z hz => ⟨(hs1 z hz).1, (hs1 z hz).2.1⟩) r1 k1
    have eh1 := O.rd
    have rb1 : ∀ j, Heap.read1 h1 ⟨b, j, some 0⟩ = (vm (op2S o) [] l.pl (pt bx) yv s)[j]? := fun j => x8 O.nd
    have rq1 : ∀ j, Heap.read1 h1 ⟨q, j, some 0⟩ = ([pt P.r, .map (some km), rm, .int .i64 (n : Int)] : List Value)[j]? := fun j => x8 O.cq
    have rbb1 : ∀ j, Heap.read1 h1 ⟨h.length, j, some 0⟩ = ([pt q] : List Value)[j]? := fun j => x8 O.bb
    obtain ⟨by_, _, _, _, _, rfl, _, _⟩ := ty1.root
    cases hc : chkE kn rc rt l with
    | bad ec ea =>
      rw [hc] at hR
      obtain ⟨hx0, rfl, rfl, l', tl, hp⟩ := hR
      have hRR : chkE kn rc rt (.bin s o l r) = .bad x c := by rw [chkE, hc]
      have qn := fun rt => ztz eh1 hx0 O.cq by_ rt
      have f1 : ChkR P i S (pt b) l.pl h1 (chkE kn rc rt (.bin s o l r)) := by
        rw [hRR]
        exact ⟨hx0, ⟨.bin s o l' r, ⟨b, S1, S2, pt bx, pt by_, rfl, hbS, by rw [hp]; exact O.nd, tl, ty1, hs1, hs2⟩, hp⟩, eh1⟩
      have ff := ChkR.fin eh O.kp hS f1
      cases rt <;> cases o
      all_goals
        simp only [yw, ya, zt, xc, ym, zb, zz, zw, yb, zm, yi, zc, y4, wq, zo, zf, ze, zd, List.set_cons_succ, List.set_cons_zero, O_mv, y0, xi, yy, yg, O_un, ye, List.map_cons, List.map_nil, zx, zk, qe, List.cons_append, List.nil_append, List.length_cons, List.length_nil, Nat.reduceAdd, Nat.reduceSub, Nat.zero_add, Bool.not_true, Bool.not_false, zn, yc, za, y9, w6, xa, z7, zq, zj, zh, zg, Nat.add_zero, List.getElem?_cons_zero, Bool.bne_false, beq_self_eq_true, jw, eq_self, zs, yj, va, laid, zs, ← hh0, xm, xp, rbb, rq, ok_0 eh0, rb, jg, q9, q8, q1, rb1, rq1, rbb1, op2S, zyu, zxf, zut, ztd, qn, fe eh1 hx0, zey]
        exact ⟨trivial, ff _⟩
    | ok l' =>
      rw [hc] at hR
      obtain ⟨rfl, rfl, rfl, tl, hp⟩ := hR
      have ch1 := ch0.kp eh0 k1 (fun h => cl.q (hs1 _ h).1) (fun h => cl.k (hs1 _ h).1) (fun b hb h => cl.r b hb (hs1 _ h).1)
      obtain ⟨h2, q2, r2, k2⟩ := ihr hb h1 i0 i q km n rm S2 (pt by_) e0 eh1 ch1 ty1 (cl.weak fun z hz => (hs2 z hz).1) (fun z hz => by have := hS z (hs2 z hz).1; have := O.kp.le; omega)
      obtain ⟨by2, x, c, t, hby, W, hR2, tl2⟩ := yf7 e0 eh O tl hp cl hS hbS hs1 hs2 r2 k2
      have hby : by_ = by2 := by simpa using hby
      subst hby
      have eh2 := W.rd
      have rb2 : ∀ j, Heap.read1 h2 ⟨b, j, some 0⟩ = (vm (op2S o) [] l.pl (pt bx) (pt by_) s)[j]? := fun j => x8 W.nd
      have rq2 : ∀ j, Heap.read1 h2 ⟨q, j, some 0⟩ = ([pt P.r, .map (some km), rm, .int .i64 (n : Int)] : List Value)[j]? := fun j => x8 W.cq
      have rbb2 : ∀ j, Heap.read1 h2 ⟨h.length, j, some 0⟩ = ([pt q] : List Value)[j]? := fun j => x8 W.bb
      cases hc2 : chkE kn rc (rt || o == .minus) r with
      | bad ec ea =>
        rw [hc2] at hR2
        obtain ⟨hx0, rfl, rfl, r', tr', hpr⟩ := hR2
        have hRR : chkE kn rc rt (.bin s o l r) = .bad x c := by rw [chkE, hc]; simp only [hc2]
        have f1 : ChkR P i S (pt b) l.pl h2 (chkE kn rc rt (.bin s o l r)) := by
          rw [hRR]
          exact ⟨hx0, ⟨.bin s o l' r', ⟨b, S1, S2, pt bx, pt by_, rfl, hbS, by rw [hp]; exact W.nd, tl2, tr', hs1, hs2⟩, hp⟩, eh2⟩
        have ff := ChkR.fin eh W.kp hS f1
        cases rt <;> cases o
        all_goals
          simp only [show (Op2.or == Op2.minus) = false from rfl, show (Op2.and == Op2.minus) = false from rfl, show (Op2.minus == Op2.minus) = true from rfl, show (Op2.seq == Op2.minus) = false from rfl, show (Op2.cross == Op2.minus) = false from rfl, Bool.or_false, Bool.or_true] at q2
          simp only [yw, ya, zt, xc, ym, zb, zz, zw, yb, zm, yi, zc, y4, wq, zo, zf, ze, zd, List.set_cons_succ, List.set_cons_zero, O_mv, y0, xi, yy, yg, O_un, ye, List.map_cons, List.map_nil, zx, zk, qe, List.cons_append, List.nil_append, List.length_cons, List.length_nil, Nat.reduceAdd, Nat.reduceSub, Nat.zero_add, Bool.not_true, Bool.not_false, zn, yc, za, y9, w6, xa, z7, zq, zj, zh, zg, Nat.add_zero, List.getElem?_cons_zero, Bool.bne_false, beq_self_eq_true, jw, eq_self, zs, yj, va, laid, zs, ← hh0, xm, xp, rbb, rq, ok_0 eh0, rb, jg, q9, q8, q1, rb1, rbb1, op2S, zyu, zxf, zut, ztd, q2, rbb2, rq2, fe eh2 hx0, zey]
          exact ⟨trivial, ff _⟩
      | ok r' =>
        rw [hc2] at hR2
        obtain ⟨rfl, rfl, rfl, tr', hpr⟩ := hR2
        obtain ⟨opl, wl, ll, rl, hcl⟩ := W.cl
        obtain ⟨opr, wr, lr', rr', hcr⟩ := W.cr
        have lb2 := (List.getElem?_eq_some_iff.1 W.nd).1
        -- the kinds of two parts that are to be the same
        have same : (o = .or ∨ o = .and ∨ o = .minus) → ∃ h3, DF FF wi [pt by_, .bool l'.set, pt h.length] h2 = some (tup [], h3) ∧ (∀ j, Heap.read1 h3 ⟨b, j, some 0⟩ = (vm (op2S o) [] l.pl (pt bx) (pt by_) s)[j]?) ∧ Heap.read1 h3 ⟨bx, 5, some 0⟩ = some (.bool l'.set) ∧
            Heap.write1 h3 ⟨b, 5, some 0⟩ (.bool l'.set) = some (h3.set b (.cells (vm (op2S o) [] l.pl (pt bx) (pt by_) l'.set) 0 false)) ∧ ∀ w, ChkR P i S (pt b) l.pl (AM.finish h w (h3.set b (.cells (vm (op2S o) [] l.pl (pt bx) (pt by_) l'.set) 0 false))) (chkE kn rc rt (.bin s o l r)) ∧ Kp P S h (AM.finish h w (h3.set b (.cells (vm (op2S o) [] l.pl (pt bx) (pt by_) l'.set) 0 false))) := by
          intro ho
          obtain ⟨h3, x3, c3, qm, e3, k3, hx⟩ := zok eh2 W.cq W.bb l'.set hcr
          have nd3 := k3.keep _ _ W.nd id (nr b (cl.lo b hbS))
          have lb3 := (List.getElem?_eq_some_iff.1 nd3).1
          have bx3 := k3.keep _ _ hcl id (by
              obtain ⟨b', _, _, _, _, hpb, hbS1, _⟩ := tl2.root; have hpb : bx = b' := by simpa using hpb
              subst hpb; exact nr _ (cl.lo _ (hs1 _ hbS1).1))
          have k3' : Kp P S h h3 := (W.kp.trans k3).weak fun z hz => hz.elim id False.elim
          refine ⟨h3, qm, fun j => x8 nd3, x8 bx3, by rw [b9 nd3 (by simp [vm]), zit], fun w => ChkR.fin eh (k3'.set hbS _) hS ?_ w⟩
          have tree : TreeP (h3.set b (.cells (vm (op2S o) [] l.pl (pt bx) (pt by_) l'.set) 0 false)) S (pt b) (.bin l'.set o l' r') :=
            ⟨b, S1, S2, pt bx, pt by_, rfl, hbS, by rw [hp]; exact List.getElem?_set_self lb3, tl2.keep fun z o hz ho => by
              rw [List.getElem?_set_ne (Ne.symm (hs1 z hz).2.1)]; exact k3.keep z o ho id (nr z (cl.lo z (hs1 z hz).1)), tr'.keep fun z o hz ho => by
              rw [List.getElem?_set_ne (Ne.symm (hs2 z hz).2)]; exact k3.keep z o ho id (nr z (cl.lo z (hs2 z hz).1)), hs1, hs2⟩
          have e3' := e0.node e3 (cl.lo b hbS) (.cells (vm (op2S o) [] l.pl (pt bx) (pt by_) l'.set) 0 false)
          rcases hx with ⟨hst, rfl, rfl⟩ | ⟨hst, rfl, rfl⟩
          · have hRR : chkE kn rc rt (.bin s o l r) = .ok (.bin l'.set o l' r') := by
              rw [chkE, hc]; simp only [hc2]
              have : (r'.set != l'.set) = false := by rw [bne, hst]; rfl
              rcases ho with rfl | rfl | rfl <;> simp only [this, Bool.false_eq_true, if_false]
            rw [hRR]
            exact ⟨tree, hp, e3'⟩
          · have hRR : chkE kn rc rt (.bin s o l r) = .bad 41 r.pl := by
              rw [chkE, hc]; simp only [hc2]
              have : (r'.set != l'.set) = true := by rw [bne, hst]; rfl
              rcases ho with rfl | rfl | rfl <;> simp only [this, if_true]
            rw [hRR]
            exact ⟨by omega, ⟨_, tree, hp⟩, e3'⟩
        -- the kinds of two parts that are to be of a kind each
        have each : ∀ k : Bool, (o = .seq ∧ k = false ∨ o = .cross ∧ k = true) → ∃ h3 h4, DF FF wi [pt bx, .bool k, pt h.length] h2 = some (tup [], h3) ∧ (∀ j, Heap.read1 h3 ⟨b, j, some 0⟩ = (vm (op2S o) [] l.pl (pt bx) (pt by_) s)[j]?) ∧ DF FF wi [pt by_, .bool k, pt h.length] h3 = some (tup [], h4) ∧
            ∀ w, ChkR P i S (pt b) l.pl (AM.finish h w h4) (chkE kn rc rt (.bin s o l r)) ∧ Kp P S h (AM.finish h w h4) := by
          intro k ho
          obtain ⟨h3, x3, c3, qm, e3, k3, hx⟩ := zok eh2 W.cq W.bb k hcl
          have nq : q ≠ P.r := by rintro rfl; have := W.rd.hr.symm.trans W.cq; simp at this
          have hbl : h.length ≠ P.r := by have := eh.lr; omega
          have hbyS : by_ ≠ P.r := by
              obtain ⟨b', _, _, _, _, hpb, hbS1, _⟩ := tr'.root; have hpb : by_ = b' := by simpa using hpb
              subst hpb; exact nr _ (cl.lo _ (hs2 _ hbS1).1)
          have nd3 := k3.keep _ _ W.nd id (nr b (cl.lo b hbS))
          have cq3 := k3.keep _ _ W.cq id nq
          have bb3 := k3.keep _ _ W.bb id hbl
          have cr3 := k3.keep _ _ hcr id hbyS
          have tree : ∀ h4, Kp P (fun _ => False) h3 h4 → ∀ s', s' = s → TreeP h4 S (pt b) (.bin s' o l' r') := fun h4 k4 s' hs' => by
            subst hs'
            have kk := k3.trans k4
            exact ⟨b, S1, S2, pt bx, pt by_, rfl, hbS, by rw [hp]; exact kk.keep _ _ W.nd (fun h => h.elim id id) (nr b (cl.lo b hbS)), tl2.keep fun z o hz ho => kk.keep z o ho (fun h => h.elim id id) (nr z (cl.lo z (hs1 z hz).1)), tr'.keep fun z o hz ho => kk.keep z o ho (fun h => h.elim id id) (nr z (cl.lo z (hs2 z hz).1)), hs1, hs2⟩
          have kph : ∀ h4, Kp P (fun _ => False) h3 h4 → Kp P S h h4 := fun h4 k4 => ((W.kp.trans k3).trans k4).weak fun z hz => hz.elim (fun h => h.elim id False.elim) False.elim
          rcases hx with ⟨hst, rfl, rfl⟩ | ⟨hst, rfl, rfl⟩
          · obtain ⟨h4, x4, c4, qm4, e4, k4, hx4⟩ := zok e3 cq3 bb3 k cr3
            refine ⟨h3, h4, qm, fun j => x8 nd3, qm4, fun w => ChkR.fin eh (kph h4 k4) hS ?_ w⟩
            rcases hx4 with ⟨hst4, rfl, rfl⟩ | ⟨hst4, rfl, rfl⟩
            · have hRR : chkE kn rc rt (.bin s o l r) = .ok (.bin s o l' r') := by
                rw [chkE, hc]; simp only [hc2]
                rcases ho with ⟨rfl, rfl⟩ | ⟨rfl, rfl⟩ <;> (cases h' : l'.set <;> cases h'' : r'.set <;> simp_all)
              rw [hRR]
              exact ⟨tree h4 k4 s rfl, hp, e4⟩
            · have hRR : chkE kn rc rt (.bin s o l r) = .bad 41 r.pl := by
                rw [chkE, hc]; simp only [hc2]
                rcases ho with ⟨rfl, rfl⟩ | ⟨rfl, rfl⟩ <;> (cases h' : l'.set <;> cases h'' : r'.set <;> simp_all)
              rw [hRR]
              exact ⟨by omega, ⟨_, tree h4 k4 s rfl, hp⟩, e4⟩
          · have qm4 := yeq e3 (by omega) cq3 bb3 k cr3
            refine ⟨h3, h3, qm, fun j => x8 nd3, qm4, fun w => ChkR.fin eh (kph h3 (Kp.refl _ _ _)) hS ?_ w⟩
            have hRR : chkE kn rc rt (.bin s o l r) = .bad 41 l.pl := by
              rw [chkE, hc]; simp only [hc2]
              rcases ho with ⟨rfl, rfl⟩ | ⟨rfl, rfl⟩ <;> (cases h' : l'.set <;> simp_all)
            rw [hRR]
            exact ⟨by omega, ⟨_, tree h3 (Kp.refl _ _ _) s rfl, hp⟩, e3⟩
        have rbx2 : Heap.read1 h2 ⟨bx, 5, some 0⟩ = some (.bool l'.set) := x8 hcl
        cases o
        · obtain ⟨h3, qm, rb3, rx3, wb, ff⟩ := same (by simp)
          cases rt
          all_goals
            simp only [show (Op2.or == Op2.minus) = false from rfl, Bool.or_false] at q2
            simp only [yw, ya, zt, ym, zb, zz, zw, yb, zm, yi, zc, zp, y4, wq, zo, zf, ze, zd, List.set_cons_succ, List.set_cons_zero, O_mv, y0, xi, yy, yg, O_un, ye, List.map_cons, List.map_nil, zx, zk, qe, List.cons_append, List.nil_append, List.length_cons, List.length_nil, Nat.reduceAdd, Nat.reduceSub, Nat.zero_add, Bool.not_true, zn, yc, zy, za, zi, w6, xa, z7, zl, xb, fc, zq, zj, zh, zg, Nat.add_zero, List.getElem?_cons_zero, Bool.bne_false, beq_self_eq_true, jw, eq_self, zs, yj, va, laid, zs, ← hh0, xm, xp, rbb, rq, ok_0 eh0, rb, jg, q9, q8, q1, rb1, rbb1, op2S, ycs, zyu, q2, rbb2, rq2, rb2, ok_0 eh2, gw, bn, jl, rbx2, qm, rb3, rx3, wb, wn]
            exact ⟨trivial, ff _⟩
        · obtain ⟨h3, qm, rb3, rx3, wb, ff⟩ := same (by simp)
          cases rt
          all_goals
            simp only [show (Op2.and == Op2.minus) = false from rfl, Bool.or_false] at q2
            simp only [yw, ya, zt, ym, zb, zz, zw, yb, zm, yi, zc, zp, y4, wq, zo, zf, ze, zd, List.set_cons_succ, List.set_cons_zero, O_mv, y0, xi, yy, yg, O_un, ye, List.map_cons, List.map_nil, zx, zk, qe, List.cons_append, List.nil_append, List.length_cons, List.length_nil, Nat.reduceAdd, Nat.reduceSub, Nat.zero_add, Bool.not_true, zn, yc, zy, za, zi, w6, xa, z7, zl, xb, fc, zq, zj, zh, zg, Nat.add_zero, List.getElem?_cons_zero, Bool.bne_false, beq_self_eq_true, jw, eq_self, zs, yj, va, laid, zs, ← hh0, xm, xp, rbb, rq, ok_0 eh0, rb, jg, q9, q8, q1, rb1, rbb1, op2S, yde, ycw, zxf, q2, rbb2, rq2, rb2, ok_0 eh2, gw, bn, jl, rbx2, qm, rb3, rx3, wb, wn]
            exact ⟨trivial, ff _⟩
        · obtain ⟨h3, qm, rb3, rx3, wb, ff⟩ := same (by simp)
          cases rt
          all_goals
            simp only [show (Op2.minus == Op2.minus) = true from rfl, Bool.or_true] at q2
            simp only [yw, ya, zt, ym, zb, zz, zw, yb, zm, yi, zc, zp, y4, wq, zo, zf, ze, zd, List.set_cons_succ, List.set_cons_zero, O_mv, y0, xi, yy, yg, O_un, ye, List.map_cons, List.map_nil, zx, zk, qe, List.cons_append, List.nil_append, List.length_cons, List.length_nil, Nat.reduceAdd, Nat.reduceSub, Nat.zero_add, Bool.not_true, zn, yc, zy, za, zi, w6, xa, z7, zl, xb, fc, zq, zj, zh, zg, Nat.add_zero, List.getElem?_cons_zero, Bool.bne_false, beq_self_eq_true, jw, eq_self, zs, yj, va, laid, zs, ← hh0, xm, xp, rbb, rq, ok_0 eh0, rb, jg, q9, q8, q1, rb1, rbb1, op2S, ycr, ycq, yco, q2, rbb2, rq2, rb2, ok_0 eh2, gw, bn, jl, rbx2, qm, rb3, rx3, wb, wn]
            exact ⟨trivial, ff _⟩
        · obtain ⟨h3, h4, qm, rb3, qm4, ff⟩ := each false (by simp)
          cases rt
          all_goals
            simp only [show (Op2.seq == Op2.minus) = false from rfl, Bool.or_false] at q2
            simp only [yw, ya, zt, ym, zb, zz, zw, yb, zm, yi, zc, y4, wq, zo, zf, ze, zd, List.set_cons_succ, List.set_cons_zero, O_mv, y0, xi, yy, yg, O_un, ye, List.map_cons, List.map_nil, zx, zk, qe, List.cons_append, List.nil_append, List.length_cons, List.length_nil, Nat.reduceAdd, Nat.reduceSub, Nat.zero_add, Bool.not_true, zn, yc, zy, za, zi, w6, xa, z7, zq, zj, zh, zg, Nat.add_zero, List.getElem?_cons_zero, Bool.bne_false, beq_self_eq_true, jw, eq_self, zs, yj, va, laid, zs, ← hh0, xm, xp, rbb, rq, ok_0 eh0, rb, jg, q9, q8, q1, rb1, rbb1, op2S, yc0, ydf, ydj, zut, q2, rbb2, rq2, rb2, ok_0 eh2, gw, bn, jl, qm, rb3, qm4, wn]
            exact ⟨trivial, ff _⟩
        · obtain ⟨h3, h4, qm, rb3, qm4, ff⟩ := each true (by simp)
          cases rt
          all_goals
            simp only [show (Op2.cross == Op2.minus) = false from rfl, Bool.or_false] at q2
            simp only [yw, ya, zt, ym, zb, zz, zw, yb, zm, yi, zc, y4, wq, zo, zf, ze, zd, List.set_cons_succ, List.set_cons_zero, O_mv, y0, xi, yy, yg, O_un, ye, List.map_cons, List.map_nil, zx, zk, qe, List.cons_append, List.nil_append, List.length_cons, List.length_nil, Nat.reduceAdd, Nat.reduceSub, Nat.zero_add, Bool.not_true, zn, yc, zy, za, zi, w6, xa, z7, zq, zj, zh, zg, Nat.add_zero, List.getElem?_cons_zero, Bool.bne_false, beq_self_eq_true, jw, eq_self, zs, yj, va, laid, zs, ← hh0, xm, xp, rbb, rq, ok_0 eh0, rb, jg, q9, q8, q1, rb1, rbb1, op2S, yc5, ycy, ydh, ztd, yda, q2, rbb2, rq2, rb2, ok_0 eh2, gw, bn, jl, qm, rb3, qm4, wn]
            exact ⟨trivial, ff _⟩
  obtain ⟨v, h', r, rfl, g⟩ := this
  exact ⟨h', r, g⟩
theorem zhi (P : RP) (kn : Kn) (rc : List Bys) : ∀ (e : Ex) (rt : Bool), ze6 P kn rc rt e
  | .name s a w, rt => zu2 P kn rc s a w rt
  | .zero a, rt => zvd P kn rc a rt
  | .par s a e, rt => zyk P kn rc s a e rt (zhi P kn rc e rt)
  | .box a e, rt => zxj P kn rc a e rt (zhi P kn rc e rt)
  | .un o e, rt => yax P kn rc o e rt (zhi P kn rc e rt)
  | .bin s o l r, rt => zxg P kn rc s o l r rt (zhi P kn rc l rt) (zhi P kn rc r (rt || o == .minus))
end Go.Proofs.YtljdbheclfaloaaGreatDoor.AM
namespace Go.Proofs.YtljdbheclfaloaaGreatDoor.AM
open Go.RowKit
set_option linter.unusedSimpArgs false
set_option linter.unusedVariables false
set_option maxRecDepth 20000

theorem zvm (l : List Bys) (w : Bys) (h : l.contains w = false) : pm .str (str w) (.bool true) (rcE l) = some (rcE (l ++ [w])) := by
  have := zsv (fun _ => Value.bool true) w () (l.map fun w => (w, ())) (by rw [znq, h]; rfl)
  rw [rcE, this, rcE]; simp
theorem znl (w : Bys) : ∀ l : List Bys, l.contains w = true → pm .str (str w) (.bool true) (rcE l) = some (rcE l)
  | [], h => by cases h
  | v :: l, h => by
    rw [List.contains_cons] at h
    have e : rcE (v :: l) = (str v, .bool true) :: rcE l := rfl
    rw [e, pm, zms]
    cases hv : (w == v)
    · rw [hv, Bool.false_or] at h
      simp only
      rw [znl w l h]; rfl
    · rw [eq_of_beq hv]
def zks (l : List Bys) (w : Bys) : List Bys := if l.contains w then l else l ++ [w]
theorem yf6 (l : List Bys) (w : Bys) : pm .str (str w) (.bool true) (rcE l) = some (rcE (zks l w)) := by
  unfold zks
  cases h : l.contains w
  · exact zvm l w h
  · exact znl w l h
theorem zi8 {kn : Kn} {w : Bys} (h : jo kn w = none) (b : Bool) : pm .str (str w) (.bool b) (knE kn) = some (knE (kn ++ [(w, b)])) := by
  rw [zgk, Option.map_eq_none_iff] at h
  have := zsv (fun b => Value.bool b) w b kn h
  exact this
theorem zm4 {w : Bys} {b : Bool} : ∀ {kn : Kn}, jo kn w = some b → pm .str (str w) (.bool b) (knE kn) = some (knE kn)
  | [], h => by cases h
  | (v, s) :: kn, h => by
    rw [jo] at h
    have e : knE ((v, s) :: kn) = (str v, .bool s) :: knE kn := rfl
    rw [e, pm, zms]
    cases hv : (w == v)
    · rw [hv] at h
      simp only [Bool.false_eq_true, if_false] at h
      simp only
      rw [zm4 h]; rfl
    · rw [hv] at h
      simp only [if_true] at h
      cases h
      rw [eq_of_beq hv]
def zd8 (kn : Kn) (here : List Bys) (n x : Nat) (w : Bys) : Nat := if x ≠ 0 then x else if (jo kn w).isSome || here.contains w then 42 else if 64 ≤ n then 2 else 0
def zd9 (kn : Kn) (here : List Bys) (n x a p : Nat) (w : Bys) : Nat := if x ≠ 0 then a else if (jo kn w).isSome || here.contains w then p else if 64 ≤ n then p else 0
def KpO (P : RP) (N : Nat → Prop) (h h' : Heap) : Prop := (∀ (b : Nat) (o : AObj), h[b]? = some o → ¬ N b → b ≠ P.r → h'[b]? = some o) ∧ h.length ≤ h'.length
theorem zhm {P : RP} {h : Heap} {i x a : Nat} (e : Rd P h i 0 x a) (c p : Nat) (hc : c ≠ 0) : ∃ h', DF FF x7 [pt P.r, .int .i64 (c : Int), .int .i64 (p : Int)] h = some (tup [], h') ∧ Rd P h' i 0 (if x ≠ 0 then x else c) (if x ≠ 0 then a else p) ∧ Kp P (fun _ => False) h h' := by
  by_cases hx : x = 0
  · subst hx
    obtain ⟨h', q, e', m⟩ := zje e c p hc
    exact ⟨h', q, by simpa using e', m.kp fun o ho => by rw [e'.hc, ← e.hc]; exact ho⟩
  · refine ⟨h, zly e hx _ _, ?_, Kp.refl _ _ _⟩
    rw [if_pos hx, if_pos hx]; exact e
set_option maxHeartbeats 2000000 in
theorem yfz {P : RP} {hb h : Heap} {i0 i x a q km hm n : Nat} {rm v : Value} {kn : Kn} {here : List Bys} {w : Bys} {p : Nat} (eb : Rd P hb i0 0 0 0) (hqb : hb.length ≤ q) (hhb : hb.length ≤ hm) (e : Rd P h i 0 x a) (hx : x = 0 → a = 0) (hq : h[q]? = some (.cells [pt P.r, .map (some km), rm, .int .i64 (n : Int)] 0 false)) (hk : h[km]? = some (.map (knE kn))) (hh : h[hm]? = some (.map (rcE here))) (hn : n < 1000000) (hv : ∃ b, v = pt b) :
    ∃ h', DF FF g7 [pt q, agg [str w, .int .i64 (p : Int), v], .map (some hm)] h = some (tup [], h') ∧ Rd P h' i 0 (zd8 kn here n x w) (zd9 kn here n x a p w) ∧ h'[q]? = some (.cells [pt P.r, .map (some km), rm, .int .i64 ((n + 1 : Nat) : Int)] 0 false) ∧ h'[hm]? = some (.map (rcE (zks here w))) ∧ KpO P (fun z => z = q ∨ z = hm) h h' := by
  have nq : q ≠ P.r := by rintro rfl; have := e.hr.symm.trans hq; simp at this
  have nk : km ≠ P.r := by rintro rfl; have := e.hr.symm.trans hk; simp at this
  have nh : hm ≠ P.r := by rintro rfl; have := e.hr.symm.trans hh; simp at this
  have qc : q ≠ P.c := by rintro rfl; have := e.hc.symm.trans hq; simp at this
  have hc : hm ≠ P.c := by rintro rfl; have := e.hc.symm.trans hh; simp at this
  have qh : q ≠ hm := by rintro rfl; have := hq.symm.trans hh; simp at this
  have : ∃ v' h', DF FF g7 [pt q, agg [str w, .int .i64 (p : Int), v], .map (some hm)] h = some (v', h') ∧ (v' = tup [] ∧ Rd P h' i 0 (zd8 kn here n x w) (zd9 kn here n x a p w) ∧ h'[q]? = some (.cells [pt P.r, .map (some km), rm, .int .i64 ((n + 1 : Nat) : Int)] 0 false) ∧ h'[hm]? = some (.map (rcE (zks here w))) ∧ KpO P (fun z => z = q ∨ z = hm) h h') := by
    refine wx zia ?_
    obtain ⟨vb, rfl⟩ := hv
    obtain ⟨h0, hh0⟩ : ∃ h0, h0 = h ++ [AObj.cells [str w, .int .i64 (p : Int), pt vb] 0 false] := ⟨_, rfl⟩
    have e0 : Rd P h0 i 0 x a := by rw [hh0]; exact e.more _
    have k0 : Kp P (fun _ => False) h h0 := by rw [hh0]; exact Kp.add _ _ _ _
    have g0 : h0[h.length]? = some (.cells [str w, .int .i64 (p : Int), pt vb] 0 false) := by rw [hh0]; simp
    have lr := e.lr
    have q0 := k0.keep _ _ hq id nq
    have kk0 := k0.keep _ _ hk id nk
    have hh0' := k0.keep _ _ hh id nh
    have c1 : ((64 : Int) ≤ (n : Int)) = (64 ≤ n) := by apply propext; omega
    have w1 : IntKind.i64.wrap ((n : Int) + 1) = ((n + 1 : Nat) : Int) := xq (by omega)
    -- whatever went wrong
    have last : ∀ (K : Heap) (x' a' : Nat), Rd P K i 0 x' a' → Kp P (fun _ => False) h0 K → x' = zd8 kn here n x w → a' = zd9 kn here n x a p w →
        Heap.read1 K ⟨q, 3, some 0⟩ = some (.int .i64 (n : Int)) ∧ ∃ K1 K2, Heap.write1 K ⟨q, 3, some 0⟩ (.int .i64 ((n + 1 : Nat) : Int)) = some K1 ∧ Heap.read1 K1 ⟨h.length, 0, some 0⟩ = some (str w) ∧ updO K1 .str (.map (some hm)) (str w) (.bool true) = some (undef, K2) ∧
          ∀ u, Rd P (AM.finish h u K2) i 0 (zd8 kn here n x w) (zd9 kn here n x a p w) ∧ (AM.finish h u K2)[q]? = some (.cells [pt P.r, .map (some km), rm, .int .i64 ((n + 1 : Nat) : Int)] 0 false) ∧ (AM.finish h u K2)[hm]? = some (.map (rcE (zks here w))) ∧ KpO P (fun z => z = q ∨ z = hm) h (AM.finish h u K2) := by
      intro K x' a' eK kK hx' ha'
      subst hx' ha'
      have qK := kK.keep _ _ q0 id nq
      have hK := kK.keep _ _ hh0' id nh
      have lq := (List.getElem?_eq_some_iff.1 qK).1
      have lh := (List.getElem?_eq_some_iff.1 hK).1
      have hK1 : (K.set q (.cells [pt P.r, .map (some km), rm, .int .i64 ((n + 1 : Nat) : Int)] 0 false))[hm]? = some (.map (rcE here)) := by rw [List.getElem?_set_ne qh]; exact hK
      have gK := kK.keep _ _ g0 id (by omega)
      have lq0 := (List.getElem?_eq_some_iff.1 hq).1
      have hq2 : ((K.set q (.cells [pt P.r, .map (some km), rm, .int .i64 ((n + 1 : Nat) : Int)] 0 false)).set hm (.map (rcE (zks here w))))[q]? = some (.cells [pt P.r, .map (some km), rm, .int .i64 ((n + 1 : Nat) : Int)] 0 false) := by rw [List.getElem?_set_ne (Ne.symm qh), List.getElem?_set_self lq]
      refine ⟨x8 qK, _, _, by rw [b9 qK (by simp)]; rfl, ?_, zni _ hK1 (yf6 here w), ?_⟩
      · rw [ybo (by simp; omega), x8 gK]; rfl
      · intro u
        have hfin : AM.finish h u ((K.set q (.cells [pt P.r, .map (some km), rm, .int .i64 ((n + 1 : Nat) : Int)] 0 false)).set hm (.map (rcE (zks here w)))) = ((K.set q (.cells [pt P.r, .map (some km), rm, .int .i64 ((n + 1 : Nat) : Int)] 0 false)).set hm (.map (rcE (zks here w)))) := by
          rcases pz h _ u with hf | ⟨_, hkk⟩
          · exact hf
          · exfalso
            have h1 := hq
            rw [← hkk, List.getElem?_take, if_pos lq0, hq2] at h1
            simp at h1
            omega
        rw [hfin]
        refine ⟨?_, hq2, ?_, ?_, ?_⟩
        · exact eb.upd (eb.upd eK hqb _) hhb _
        · rw [List.getElem?_set_self (by rw [List.length_set]; exact lh)]
        · intro b o ho n1 n2
          rw [List.getElem?_set_ne (fun h => n1 (.inr h.symm)), List.getElem?_set_ne (fun h => n1 (.inl h.symm))]
          exact kK.keep b o (k0.keep b o ho id n2) id n2
        · rw [List.length_set, List.length_set]; have := k0.le; have := kK.le; omega
    have rg : ∀ j, Heap.read1 h0 ⟨h.length, j, some 0⟩ = ([str w, .int .i64 (p : Int), pt vb] : List Value)[j]? := fun j => x8 g0
    have rq : ∀ j, Heap.read1 h0 ⟨q, j, some 0⟩ = ([pt P.r, .map (some km), rm, .int .i64 (n : Int)] : List Value)[j]? := fun j => x8 q0
    have lk := zfb h0 kk0 (.bool false) true (w := w) (zrh kn w)
    have lrc := zfb h0 hh0' (.bool false) false (w := w) (zzw here w)
    obtain ⟨K1, f1, e1, k1⟩ := zhm e0 42 p (by omega)
    obtain ⟨K2, f2, e2, k2⟩ := zhm e0 2 p (by omega)
    obtain ⟨K3, f3, e3, k3⟩ := zhm e1 2 p (by omega)
    simp only [Int.cast_ofNat_Int] at f1 f2 f3
    have k13 : Kp P (fun _ => False) h0 K3 := (k1.trans k3).weak fun z hz => hz.elim id id
    have rq1 : ∀ j, Heap.read1 K1 ⟨q, j, some 0⟩ = ([pt P.r, .map (some km), rm, .int .i64 (n : Int)] : List Value)[j]? := fun j => x8 (k1.keep _ _ q0 id nq)
    have rg1 : ∀ j, Heap.read1 K1 ⟨h.length, j, some 0⟩ = ([str w, .int .i64 (p : Int), pt vb] : List Value)[j]? := fun j => x8 (k1.keep _ _ g0 id (by omega))
    have rq3 : ∀ j, Heap.read1 K3 ⟨q, j, some 0⟩ = ([pt P.r, .map (some km), rm, .int .i64 (n : Int)] : List Value)[j]? := fun j => x8 (k13.keep _ _ q0 id nq)
    have rq2 : ∀ j, Heap.read1 K2 ⟨q, j, some 0⟩ = ([pt P.r, .map (some km), rm, .int .i64 (n : Int)] : List Value)[j]? := fun j => x8 (k2.keep _ _ q0 id nq)
    cases htw : ((jo kn w).isSome || here.contains w)
    · rw [Bool.or_eq_false_iff] at htw
      obtain ⟨t1, t2⟩ := htw
      have hl : jo kn w = none := by simpa using t1
      rw [hl] at lk
      rw [t2] at lrc
      by_cases h64 : 64 ≤ n
      · have hX : (if x ≠ 0 then x else 2) = zd8 kn here n x w := by unfold zd8; rw [t1, t2]; simp [h64]
        have hA : (if x ≠ 0 then a else p) = zd9 kn here n x a p w := by unfold zd9; rw [t1, t2]; simp [h64]
        obtain ⟨z1, J1, J2, z2, z3, z4, z5⟩ := last K2 _ _ e2 k2 hX hA
        simp only [jq, ya, zt, ym, zb, zz, zw, yb, zm, yi, zc, zp, y4, zo, zf, ze, zd, List.set_cons_succ, List.set_cons_zero, O_mv, y0, xi, yy, yg, ye, List.map_cons, List.map_nil, zx, zk, qf, zch, List.cons_append, List.nil_append, List.length_cons, List.length_nil, Nat.reduceAdd, Nat.reduceSub, Nat.zero_add, zn, yc, za, Option.map_none, w6, xa, z7, xj, y8, zl, xb, xz, zq, zj, zh, zg, Nat.add_zero, List.getElem?_cons_zero, List.getElem?_cons_succ, eq_self, yf, zs, Option.map_none, decide_true, yf, zs, ← hh0, rg, rq, gf, lk, lrc, zg1, Option.map_none, fx, wn, Bool.false_eq_true, if_false, if_true, c1, h64, decide_true, f2, rq2, w1, z2, z3, z4]
        exact ⟨trivial, z5 _⟩
      · have hX : x = zd8 kn here n x w := by unfold zd8; rw [t1, t2]; by_cases hx0 : x = 0 <;> simp [h64, hx0]
        have hA : a = zd9 kn here n x a p w := by unfold zd9; rw [t1, t2]; by_cases hx0 : x = 0 <;> simp [h64, hx0, hx]
        obtain ⟨z1, J1, J2, z2, z3, z4, z5⟩ := last h0 _ _ e0 (Kp.refl _ _ _) hX hA
        simp only [jq, ya, zt, ym, zb, zw, yb, zm, yi, zc, zp, y4, zo, zf, ze, zd, List.set_cons_succ, List.set_cons_zero, O_mv, y0, xi, yy, yg, zx, zk, qf, zch, List.cons_append, List.nil_append, List.length_cons, List.length_nil, Nat.reduceAdd, Nat.reduceSub, Nat.zero_add, zn, yc, za, Option.map_none, w6, xa, z7, xj, y8, zl, xb, xz, zq, zj, zh, zg, Nat.add_zero, List.getElem?_cons_zero, List.getElem?_cons_succ, eq_self, yf, zs, Option.map_none, decide_false, yf, zs, ← hh0, rg, rq, gf, lk, lrc, zg1, Option.map_none, fx, wn, Bool.false_eq_true, if_false, if_true, c1, h64, decide_false, w1, z2, z3, z4]
        exact ⟨trivial, z5 _⟩
    · have hX1 : (if x ≠ 0 then x else 42) = zd8 kn here n x w := by unfold zd8; rw [htw]; simp
      have hA1 : (if x ≠ 0 then a else p) = zd9 kn here n x a p w := by unfold zd9; rw [htw]; simp
      have hne : (if x ≠ 0 then x else 42) ≠ 0 := by split <;> omega
      have hX3 : (if (if x ≠ 0 then x else 42) ≠ 0 then (if x ≠ 0 then x else 42) else 2) = zd8 kn here n x w := by rw [if_pos hne]; exact hX1
      have hA3 : (if (if x ≠ 0 then x else 42) ≠ 0 then (if x ≠ 0 then a else p) else p) = zd9 kn here n x a p w := by rw [if_pos hne]; exact hA1
      have two : ∀ Q : Prop, (∀ t, jo kn w = some t → Q) → (jo kn w = none → here.contains w = true → Q) → Q := fun Q a b => by
        cases hl : jo kn w with
        | some t => exact a t hl
        | none => rw [hl] at htw; exact b hl htw
      by_cases h64 : 64 ≤ n
      · obtain ⟨z1, J1, J2, z2, z3, z4, z5⟩ := last K3 _ _ e3 k13 hX3 hA3
        refine two _ (fun t hl => ?_) fun hl hh => ?_
        · rw [hl] at lk
          simp only [jq, ya, zt, zb, zz, yb, zm, yi, zc, zp, wq, zo, zf, ze, zd, List.set_cons_succ, List.set_cons_zero, O_mv, y0, xi, yy, yg, ye, List.map_cons, List.map_nil, zx, zk, qf, zch, List.cons_append, List.nil_append, List.length_cons, List.length_nil, Nat.reduceAdd, Nat.reduceSub, Nat.zero_add, zn, yc, za, w6, xa, z7, xj, y8, zl, xb, xz, zq, zj, zh, zg, Nat.add_zero, Option.map_some, List.getElem?_cons_zero, List.getElem?_cons_succ, eq_self, yf, zs, Option.map_some, decide_true, yf, zs, ← hh0, rg, rq, gf, lk, zg1, Option.map_some, fx, wn, if_true, c1, h64, decide_true, f1, rq1, rg1, f3, rq3, w1, z2, z3, z4]
          exact ⟨trivial, z5 _⟩
        · rw [hl] at lk
          rw [hh] at lrc
          simp only [jq, ya, zt, zb, zz, yb, zm, yi, zc, zp, y4, zo, zf, ze, zd, List.set_cons_succ, List.set_cons_zero, O_mv, y0, xi, yy, yg, ye, List.map_cons, List.map_nil, zx, zk, qf, zch, List.cons_append, List.nil_append, List.length_cons, List.length_nil, Nat.reduceAdd, Nat.reduceSub, Nat.zero_add, zn, yc, za, Option.map_none, w6, xa, z7, xj, y8, zl, xb, xz, zq, zj, zh, zg, Nat.add_zero, List.getElem?_cons_zero, List.getElem?_cons_succ, eq_self, yf, zs, Option.map_none, decide_true, yf, zs, ← hh0, rg, rq, gf, lk, lrc, zg1, Option.map_none, fx, wn, Bool.false_eq_true, if_false, if_true, c1, h64, decide_true, f1, rq1, rg1, f3, rq3, w1, z2, z3, z4]
          exact ⟨trivial, z5 _⟩
      · obtain ⟨z1, J1, J2, z2, z3, z4, z5⟩ := last K1 _ _ e1 k1 hX1 hA1
        refine two _ (fun t hl => ?_) fun hl hh => ?_
        · rw [hl] at lk
          simp only [jq, ya, zt, ym, zb, zz, zw, yb, zm, yi, zc, zp, wq, zo, zf, ze, zd, List.set_cons_succ, List.set_cons_zero, O_mv, y0, xi, yy, yg, ye, List.map_cons, List.map_nil, zx, zk, qf, zch, List.cons_append, List.nil_append, List.length_cons, List.length_nil, Nat.reduceAdd, Nat.reduceSub, Nat.zero_add, zn, yc, za, w6, xa, z7, xj, y8, zl, xb, xz, zq, zj, zh, zg, Nat.add_zero, Option.map_some, List.getElem?_cons_zero, List.getElem?_cons_succ, eq_self, yf, zs, Option.map_some, decide_false, yf, zs, ← hh0, rg, rq, gf, lk, zg1, Option.map_some, fx, wn, if_true, c1, h64, decide_false, f1, rq1, w1, z2, z3, z4]
          exact ⟨trivial, z5 _⟩
        · rw [hl] at lk
          rw [hh] at lrc
          simp only [jq, ya, zt, ym, zb, zz, zw, yb, zm, yi, zc, zp, y4, zo, zf, ze, zd, List.set_cons_succ, List.set_cons_zero, O_mv, y0, xi, yy, yg, ye, List.map_cons, List.map_nil, zx, zk, qf, zch, List.cons_append, List.nil_append, List.length_cons, List.length_nil, Nat.reduceAdd, Nat.reduceSub, Nat.zero_add, zn, yc, za, Option.map_none, w6, xa, z7, xj, y8, zl, xb, xz, zq, zj, zh, zg, Nat.add_zero, List.getElem?_cons_zero, List.getElem?_cons_succ, eq_self, yf, zs, Option.map_none, decide_false, yf, zs, ← hh0, rg, rq, gf, lk, lrc, zg1, Option.map_none, fx, wn, Bool.false_eq_true, if_false, if_true, c1, h64, decide_false, f1, rq1, w1, z2, z3, z4]
          exact ⟨trivial, z5 _⟩
  obtain ⟨v', h', r, rfl, g⟩ := this
  exact ⟨h', r, g⟩
end Go.Proofs.YtljdbheclfaloaaGreatDoor.AM
namespace Go.Proofs.YtljdbheclfaloaaGreatDoor.AM
open Go.RowKit
set_option linter.unusedSimpArgs false
set_option linter.unusedVariables false
set_option maxRecDepth 20000

theorem gx (w : Bys) : ∀ (a b : Kn), jo (a ++ b) w = (jo a w).or (jo b w)
  | [], b => rfl
  | (v, s) :: a, b => by
    rw [List.cons_append, jo, jo]
    cases (w == v)
    · exact gx w a b
    · rfl
theorem zen (w : Bys) (f : Gv → Bool) : ∀ gs : List Gv, (gs.map (·.name)).contains w = false → jo (gs.map fun g => (g.name, f g)) w = none
  | [], h => rfl
  | g :: gs, h => by
    rw [List.map_cons, List.contains_cons, Bool.or_eq_false_iff] at h
    rw [List.map_cons, jo, h.1, if_neg Bool.false_ne_true]
    exact zen w f gs h.2
theorem zj1 {kn : Kn} : ∀ {gs : List Gv} {n : Nat} {here : List Bys}, zan kn n here gs = .ok () → ∀ (k : Nat) (g : Gv), gs[k]? = some g → jo kn g.name = none ∧ (here ++ (gs.take k).map (·.name)).contains g.name = false
  | [], n, here, h, k, g, hk => by simp at hk
  | g' :: gs, n, here, h, k, g, hk => by
    rw [zan] at h
    split at h
    · cases h
    · rename_i h1
      split at h
      · cases h
      · have h1 := Bool.not_eq_true _ |>.mp h1
        rw [Bool.or_eq_false_iff] at h1
        cases k with
        | zero =>
          cases hk
          exact ⟨by simpa using h1.1, by simpa using h1.2⟩
        | succ k =>
          obtain ⟨a, b⟩ := zj1 h k g (by simpa using hk)
          exact ⟨a, by rw [List.append_assoc] at b; simpa using b⟩
theorem zqa {kn : Kn} : ∀ {gs : List Gv} {n : Nat} {here : List Bys}, zan kn n here gs = .ok () → n + gs.length ≤ 64 + 0 ∨ gs = []
  | [], n, here, h => .inr rfl
  | g' :: gs, n, here, h => by
    rw [zan] at h
    split at h
    · cases h
    · split at h
      · cases h
      · left
        rcases zqa h with h' | rfl
        · simp only [List.length_cons]; omega
        · simp only [List.length_cons, List.length_nil]; omega
def LookR (P : RP) (i q km n : Nat) (kn : Kn) (T : Nat → Prop) (row : List Value) (h' : Heap) : CR Stm → Prop
  | .ok st => StP h' T row st ∧ Rd P h' i 0 0 0 ∧ (∃ rm, h'[q]? = some (.cells [pt P.r, .map (some km), rm, .int .i64 ((n + st.given.length : Nat) : Int)] 0 false)) ∧ h'[km]? = some (.map (knE (kn ++ st.given)))
  | .bad c a => c ≠ 0 ∧ Rd P h' i 0 c a
theorem KpO.keep {P : RP} {N : Nat → Prop} {h h' : Heap} (k : KpO P N h h') (b : Nat) (o : AObj) (ho : h[b]? = some o) (n1 : ¬ N b) (n2 : b ≠ P.r) : h'[b]? = some o := k.1 b o ho n1 n2
theorem KpO.trans {P : RP} {N N' : Nat → Prop} {h h' h'' : Heap} (a : KpO P N h h') (b : KpO P N' h' h'') : KpO P (fun z => N z ∨ N' z) h h'' :=
  ⟨fun x o e n1 n2 => b.1 x o (a.1 x o e (fun hh => n1 (.inl hh)) n2) (fun hh => n1 (.inr hh)) n2, Nat.le_trans a.2 b.2⟩
theorem KpO.weak {P : RP} {N N' : Nat → Prop} {h h' : Heap} (a : KpO P N h h') (hs : ∀ z, z < h.length → N z → N' z) : KpO P N' h h' := ⟨fun b o e n1 n2 => a.1 b o e (fun hh => n1 (hs b (List.getElem?_eq_some_iff.1 e).1 hh)) n2, a.2⟩
theorem Kp.o {P : RP} {S : Nat → Prop} {h h' : Heap} (k : Kp P S h h') : KpO P S h h' := ⟨k.keep, k.le⟩
theorem KpO.add (P : RP) (N : Nat → Prop) (h L : Heap) : KpO P N h (h ++ L) := (Kp.add P N h L).o
theorem KpO.set {P : RP} {N : Nat → Prop} {h h' : Heap} {b : Nat} (k : KpO P N h h') (hb : N b) (o : AObj) : KpO P N h (h'.set b o) :=
  ⟨fun c o' ho n1 n2 => by rw [List.getElem?_set_ne (by rintro rfl; exact n1 hb)]; exact k.1 c o' ho n1 n2, by rw [List.length_set]; exact k.2⟩
theorem LookR.fin {P : RP} {i q km n : Nat} {kn : Kn} {T : Nat → Prop} {row : List Value} {h H : Heap} {R : CR Stm} (eh : Rd P h i 0 0 0) (hq : q < h.length) (hkm : km < h.length) (k : KpO P (fun z => T z ∨ z = q ∨ z = km) h H) (hT : ∀ z, T z → z < h.length) (r : LookR P i q km n kn T row H R) (w : Value) : LookR P i q km n kn T row (AM.finish h w H) R ∧ KpO P (fun z => T z ∨ z = q ∨ z = km) h (AM.finish h w H) := by
  rcases pz h H w with hf | ⟨hf, hk⟩
  · rw [hf]; exact ⟨r, k⟩
  · rw [hf]
    have g : ∀ b o, b < h.length → H[b]? = some o → h[b]? = some o := fun b o hb ho => by
      rw [← hk, List.getElem?_take, if_pos hb]; exact ho
    have rd : ∀ x a, Rd P H i 0 x a → Rd P h i 0 x a := fun x a e =>
      ⟨g _ _ eh.lr e.hr, g _ _ eh.lc e.hc, eh.sw, eh.sc, eh.le⟩
    refine ⟨?_, fun b o ho _ _ => ho, Nat.le_refl _⟩
    cases R with
    | ok st =>
      obtain ⟨r1, r2, ⟨rm, r3⟩, r4⟩ := r
      exact ⟨r1.keep fun b o hb ho => g b o (hT b hb) ho, rd _ _ r2, ⟨rm, g _ _ hq r3⟩, g _ _ hkm r4⟩
    | bad c a => exact ⟨r.1, rd _ _ r.2⟩
def ydo (P : RP) (kn : Kn) (st : Stm) : Prop := ∀ (hb h : Heap) (i0 i q km n : Nat) (rm : Value) (T : Nat → Prop) (row : List Value), Rd P hb i0 0 0 0 → Rd P h i 0 0 0 → h[q]? = some (.cells [pt P.r, .map (some km), rm, .int .i64 (n : Int)] 0 false) → h[km]? = some (.map (knE kn)) → StP h T row st →
  (∀ z, T z → hb.length ≤ z ∧ z ≠ q ∧ z ≠ km ∧ z < h.length) → hb.length ≤ q → hb.length ≤ km → n < 900000 → (∀ rc gs, st = .lets rc gs → gs.length ≤ 8192) →
  ∃ h', DF FF ko [pt q, agg row] h = some (tup [], h') ∧ LookR P i q km n kn T row h' (chkS kn n st) ∧ KpO P (fun z => T z ∨ z = q ∨ z = km) h h'
theorem zel (K : Heap) : lenO K nils = some (.int .i64 0, K) := rfl
theorem zmr (k : Ck) : (ckS k == [114, 101, 99]) = false := by cases k <;> rfl
theorem zgf (k : Ck) : (ckS k != [101, 109, 112, 116, 121]) = (k != .empty) := by cases k <;> rfl
set_option maxHeartbeats 4000000 in
theorem yb4 (P : RP) (kn : Kn) (k : Ck) (x : Ex) (as_ : Bys) : ydo P kn (.chk k x as_) := by
  intro hb h i0 i q km n rm T row eb eh hq hk st hT hqb hkb hn hgs
  obtain ⟨v, rfl, tx⟩ := st
  have lq := (List.getElem?_eq_some_iff.1 hq).1
  have lk := (List.getElem?_eq_some_iff.1 hk).1
  have nq : q ≠ P.r := by rintro rfl; have := eh.hr.symm.trans hq; simp at this
  have nk : km ≠ P.r := by rintro rfl; have := eh.hr.symm.trans hk; simp at this
  have qk : q ≠ km := by rintro rfl; have := hq.symm.trans hk; simp at this
  have : ∃ v' h', DF FF ko [pt q, agg [str (ckS k), nils, v, str as_]] h = some (v', h') ∧ (v' = tup [] ∧ LookR P i q km n kn T [str (ckS k), nils, v, str as_] h' (chkS kn n (.chk k x as_)) ∧ KpO P (fun z => T z ∨ z = q ∨ z = km) h h') := by
    refine wx zdb ?_
    obtain ⟨bx, _, _, _, _, rfl, hbT, hbx⟩ := tx.root
    obtain ⟨h0, hh0⟩ : ∃ h0, h0 = h ++ [AObj.cells [str (ckS k), nils, pt bx, str as_] 0 false, .map []] := ⟨_, rfl⟩
    have e0 : Rd P h0 i 0 0 0 := by rw [hh0]; exact eh.more _
    have k0 : KpO P (fun _ => False) h h0 := by rw [hh0]; exact KpO.add _ _ _ _
    have g0 : h0[h.length]? = some (.cells [str (ckS k), nils, pt bx, str as_] 0 false) := by rw [hh0]; simp
    have lh0 : h.length < h0.length := by rw [hh0]; simp
    have lr := eh.lr
    have q0 := k0.keep _ _ hq id nq
    have kk0 := k0.keep _ _ hk id nk
    have lq0 := (List.getElem?_eq_some_iff.1 q0).1
    obtain ⟨h1, hh1⟩ : ∃ h1, h1 = h0.set q (.cells [pt P.r, .map (some km), .map none, .int .i64 (n : Int)] 0 false) := ⟨_, rfl⟩
    have e1 : Rd P h1 i 0 0 0 := by rw [hh1]; exact eb.upd e0 hqb _
    have q1 : h1[q]? = some (.cells [pt P.r, .map (some km), .map none, .int .i64 (n : Int)] 0 false) := by rw [hh1, List.getElem?_set_self lq0]
    have kk1 : h1[km]? = some (.map (knE kn)) := by rw [hh1, List.getElem?_set_ne qk]; exact kk0
    have g1 : h1[h.length]? = some (.cells [str (ckS k), nils, pt bx, str as_] 0 false) := by rw [hh1, List.getElem?_set_ne (by omega)]; exact g0
    have k1 : KpO P (fun z => z = q) h h1 := by rw [hh1]; exact KpO.set (N := fun z => z = q) (k0.weak (fun _ _ h => h.elim)) rfl _
    have w1 : Heap.write1 h0 ⟨q, 2, some 0⟩ (.map none) = some h1 := by rw [b9 q0 (by simp), hh1]; rfl
    have t1 : TreeP h1 T (pt bx) x := tx.keep fun z o hz ho => k1.keep z o ho (hT z hz).2.1 (by have := (hT z hz).1; have := eb.lr; omega)
    obtain ⟨h2, c2, r2, k2⟩ := zhi P kn [] x false hb h1 i0 i q km n (.map none) T (pt bx) eb e1 ⟨q1, kk1, .inl ⟨rfl, rfl⟩⟩ t1 ⟨fun z hz => (hT z hz).1, fun h => (hT _ h).2.1 rfl, fun h => (hT _ h).2.2.1 rfl, fun b hb => by cases hb⟩ (fun z hz => by have := (hT z hz).2.2.2; have := k1.2; omega)
    have lbT := fun z (hz : T z) => hT z hz
    have g2 := k2.keep _ _ g1 (fun h => by have := (hT _ h).2.2.2; omega) (by omega)
    have q2 := k2.keep _ _ q1 (fun h => (hT _ h).2.1 rfl) nq
    have kk2 := k2.keep _ _ kk1 (fun h => (hT _ h).2.2.1 rfl) nk
    have k12 : KpO P (fun z => T z ∨ z = q ∨ z = km) h h2 := (k1.trans k2.o).weak fun z _ hz => hz.elim (fun h => .inr (.inl h)) .inl
    have rg1 : ∀ j, Heap.read1 h1 ⟨h.length, j, some 0⟩ = ([str (ckS k), nils, pt bx, str as_] : List Value)[j]? := fun j => x8 g1
    have rg0 : ∀ j, Heap.read1 h0 ⟨h.length, j, some 0⟩ = ([str (ckS k), nils, pt bx, str as_] : List Value)[j]? := fun j => x8 g0
    have rg2 : ∀ j, Heap.read1 h2 ⟨h.length, j, some 0⟩ = ([str (ckS k), nils, pt bx, str as_] : List Value)[j]? := fun j => x8 g2
    have rq2 : ∀ j, Heap.read1 h2 ⟨q, j, some 0⟩ = ([pt P.r, .map (some km), .map none, .int .i64 (n : Int)] : List Value)[j]? := fun j => x8 q2
    have fa := LookR.fin (R := chkS kn n (.chk k x as_)) (row := [str (ckS k), nils, pt bx, str as_]) (n := n) (kn := kn) eh lq lk k12 (fun z hz => (hT z hz).2.2.2)
    cases hc : chkE kn [] false x with
    | bad ec ea =>
      rw [hc] at r2
      obtain ⟨hc0, ⟨x', tx', hp⟩, e2⟩ := r2
      have hRR : chkS kn n (.chk k x as_) = .bad ec ea := by rw [chkS, hc]
      have ff := fa (by rw [hRR]; exact ⟨hc0, e2⟩)
      obtain ⟨b', op', w', l', r', hpb, _, hbx'⟩ := tx'.root
      have hpb : bx = b' := by simpa using hpb
      subst hpb
      have rx : ∀ j, Heap.read1 h2 ⟨bx, j, some 0⟩ = (vm op' w' x'.pl l' r' x'.set)[j]? := fun j => x8 hbx'
      cases he : (k != .empty)
      · simp only [jd, ya, zt, vj, ym, zb, zz, zw, yb, zm, yi, zc, zp, vw, zo, zf, ze, zd, List.set_cons_succ, List.set_cons_zero, O_mv, y0, xi, yy, yg, ye, List.map_cons, List.map_nil, fq, zx, zk, wm, List.cons_append, List.nil_append, List.length_cons, List.length_nil, Nat.reduceAdd, Nat.reduceSub, Nat.zero_add, Bool.not_false, zn, yc, zy, za, yz, yk, w6, xa, z7, zl, xb, zae, zq, zj, zh, zg, List.append_assoc, List.length_append, Nat.add_zero, List.getElem?_cons_zero, List.getElem?_cons_succ, Bool.bne_true, jw, Int.reduceLT, eq_self, yf, zs, yj, va, zhy, decide_false, yf, zs, zes, ← hh0, rg0, rg1, rg2, zel, ze4, zmr, w1, xm, xp, c2, zgf, he, wn]
        exact ⟨trivial, ff _⟩
      · cases hs : x'.set
        · simp only [jd, ya, zt, vj, ym, zb, zz, zw, yb, zm, yi, zc, zp, xx, zo, zf, ze, zd, List.set_cons_succ, List.set_cons_zero, O_mv, y0, xi, yy, yg, ye, List.map_cons, List.map_nil, fq, zx, zk, wm, List.cons_append, List.nil_append, List.length_cons, List.length_nil, Nat.reduceAdd, Nat.reduceSub, Nat.zero_add, Bool.not_false, zn, yc, zy, za, yz, yk, w6, xa, z7, zl, xb, zae, zq, zj, zh, zg, List.append_assoc, List.length_append, Nat.add_zero, List.getElem?_cons_zero, List.getElem?_cons_succ, Bool.bne_true, jw, Int.reduceLT, eq_self, yf, zs, yj, va, zhy, decide_false, yf, zs, zes, ← hh0, rg0, rg1, rg2, zel, ze4, zmr, w1, xm, xp, c2, zgf, he, rx, zbm, hs, wn]
          exact ⟨trivial, ff _⟩
        · simp only [jd, ya, zt, vj, ym, zb, zz, zw, yb, zm, yi, zc, zp, xx, zo, zf, ze, zd, List.set_cons_succ, List.set_cons_zero, O_mv, y0, xi, yy, yg, ye, List.map_cons, List.map_nil, fq, zx, zk, wm, List.cons_append, List.nil_append, List.length_cons, List.length_nil, Nat.reduceAdd, Nat.reduceSub, Nat.zero_add, Bool.not_false, zn, yc, zy, za, yz, yk, w6, xa, z7, zl, xb, zae, zq, zj, zh, zg, List.append_assoc, List.length_append, Nat.add_zero, List.getElem?_cons_zero, List.getElem?_cons_succ, Bool.bne_true, jw, Int.reduceLT, eq_self, yf, zs, yj, va, zhy, decide_false, yf, zs, zes, ← hh0, rg0, rg1, rg2, zel, ze4, zmr, w1, xm, xp, c2, zgf, he, rx, zbm, fz, hs, rq2, zly e2 hc0, wn]
          exact ⟨trivial, ff _⟩
    | ok x' =>
      rw [hc] at r2
      obtain ⟨tx', hp, e2⟩ := r2
      obtain ⟨b', op', w', l', r', hpb, _, hbx'⟩ := tx'.root
      have hpb : bx = b' := by simpa using hpb
      subst hpb
      have rx : ∀ j, Heap.read1 h2 ⟨bx, j, some 0⟩ = (vm op' w' x'.pl l' r' x'.set)[j]? := fun j => x8 hbx'
      cases he : (k != .empty && x'.set)
      · have hRR : chkS kn n (.chk k x as_) = .ok (.chk k x' as_) := by rw [chkS, hc]; simp only [he]; rfl
        have ff := fa (by
          rw [hRR]
          exact ⟨⟨pt bx, rfl, tx'⟩, e2, ⟨_, q2⟩, by simpa [Stm.given] using kk2⟩)
        cases hk : (k != .empty)
        · simp only [jd, ya, zt, vj, ym, zb, zz, zw, yb, zm, yi, zc, zp, vw, zo, zf, ze, zd, List.set_cons_succ, List.set_cons_zero, O_mv, y0, xi, yy, yg, ye, List.map_cons, List.map_nil, fq, zx, zk, wm, List.cons_append, List.nil_append, List.length_cons, List.length_nil, Nat.reduceAdd, Nat.reduceSub, Nat.zero_add, Bool.not_false, zn, yc, zy, za, yz, yk, w6, xa, z7, zl, xb, zae, zq, zj, zh, zg, List.append_assoc, List.length_append, Nat.add_zero, List.getElem?_cons_zero, List.getElem?_cons_succ, Bool.bne_true, jw, Int.reduceLT, eq_self, yf, zs, yj, va, zhy, decide_false, yf, zs, zes, ← hh0, rg0, rg1, rg2, zel, ze4, zmr, w1, xm, xp, c2, zgf, hk, wn]
          exact ⟨trivial, ff _⟩
        · rw [hk, Bool.true_and] at he
          simp only [jd, ya, zt, vj, ym, zb, zz, zw, yb, zm, yi, zc, zp, xx, zo, zf, ze, zd, List.set_cons_succ, List.set_cons_zero, O_mv, y0, xi, yy, yg, ye, List.map_cons, List.map_nil, fq, zx, zk, wm, List.cons_append, List.nil_append, List.length_cons, List.length_nil, Nat.reduceAdd, Nat.reduceSub, Nat.zero_add, Bool.not_false, zn, yc, zy, za, yz, yk, w6, xa, z7, zl, xb, zae, zq, zj, zh, zg, List.append_assoc, List.length_append, Nat.add_zero, List.getElem?_cons_zero, List.getElem?_cons_succ, Bool.bne_true, jw, Int.reduceLT, eq_self, yf, zs, yj, va, zhy, decide_false, yf, zs, zes, ← hh0, rg0, rg1, rg2, zel, ze4, zmr, w1, xm, xp, c2, zgf, hk, rx, zbm, he, wn]
          exact ⟨trivial, ff _⟩
      · obtain ⟨h3, f3, e3, k3⟩ := zhm e2 41 x.pl (by omega)
        simp only [Int.cast_ofNat_Int] at f3
        have hRR : chkS kn n (.chk k x as_) = .bad 41 x.pl := by rw [chkS, hc]; simp only [he]; rfl
        have k13 : KpO P (fun z => T z ∨ z = q ∨ z = km) h h3 := (k12.trans k3.o).weak fun z _ hz => hz.elim id False.elim
        have ff := LookR.fin (R := chkS kn n (.chk k x as_)) (row := [str (ckS k), nils, pt bx, str as_]) (n := n) (kn := kn) eh lq lk k13 (fun z hz => (hT z hz).2.2.2) (by rw [hRR]; exact ⟨by omega, by simpa using e3⟩)
        rw [Bool.and_eq_true] at he
        simp only [jd, ya, zt, vj, ym, zb, zz, zw, yb, zm, yi, zc, zp, xx, zo, zf, ze, zd, List.set_cons_succ, List.set_cons_zero, O_mv, y0, xi, yy, yg, ye, List.map_cons, List.map_nil, fq, zx, zk, wm, List.cons_append, List.nil_append, List.length_cons, List.length_nil, Nat.reduceAdd, Nat.reduceSub, Nat.zero_add, Bool.not_false, zn, yc, zy, za, yz, yk, w6, xa, z7, zl, xb, zae, zq, zj, zh, zg, List.append_assoc, List.length_append, Nat.add_zero, List.getElem?_cons_zero, List.getElem?_cons_succ, Bool.bne_true, jw, Int.reduceLT, eq_self, yf, zs, yj, va, zhy, decide_false, yf, zs, zes, ← hh0, rg0, rg1, rg2, zel, ze4, zmr, w1, xm, xp, c2, zgf, he.1, rx, zbm, fz, hp, he.2, rq2, f3, wn]
        exact ⟨trivial, ff _⟩
  obtain ⟨v', h', r, rfl, g⟩ := this
  exact ⟨h', r, g⟩
end Go.Proofs.YtljdbheclfaloaaGreatDoor.AM
namespace Go.Proofs.YtljdbheclfaloaaGreatDoor.AM
open Go.RowKit
set_option linter.unusedSimpArgs false
set_option linter.unusedVariables false
set_option maxRecDepth 20000

structure LkS (P : RP) (N : Nat → Prop) (h0 K : Heap) (i q km hm b3 n : Nat) (rm : Value) (here : List Bys) (kn : Kn) (row : List Value) (x a : Nat) : Prop where
  rd : Rd P K i 0 x a
  cq : K[q]? = some (.cells [pt P.r, .map (some km), rm, .int .i64 (n : Int)] 0 false)
  ck : K[km]? = some (.map (knE kn))
  ch : K[hm]? = some (.map (rcE here))
  rw : K[b3]? = some (.cells row 0 false)
  kp : KpO P N h0 K
section
variable {P : RP} {N : Nat → Prop} {h0 K : Heap} {i q km hm b3 n : Nat} {rm : Value} {here : List Bys} {kn : Kn} {row : List Value} {x a : Nat}
theorem LkS.more (l : LkS P N h0 K i q km hm b3 n rm here kn row x a) (L : Heap) : LkS P N h0 (K ++ L) i q km hm b3 n rm here kn row x a :=
  ⟨l.rd.more L, y6 L l.cq, y6 L l.ck, y6 L l.ch, y6 L l.rw, (l.kp.trans (KpO.add P (fun _ => False) K L)).weak fun _ _ h => h.elim id False.elim⟩
theorem LkS.weak {N' : Nat → Prop} (l : LkS P N h0 K i q km hm b3 n rm here kn row x a) (hs : ∀ z, N z → N' z) : LkS P N' h0 K i q km hm b3 n rm here kn row x a :=
  ⟨l.rd, l.cq, l.ck, l.ch, l.rw, l.kp.weak fun z _ h => hs z h⟩
theorem LkS.ne (l : LkS P N h0 K i q km hm b3 n rm here kn row x a) (hr : row.length = 4) : q ≠ P.r ∧ km ≠ P.r ∧ hm ≠ P.r ∧ b3 ≠ P.r ∧ q ≠ km ∧ q ≠ hm ∧ b3 ≠ km ∧ b3 ≠ hm := by
  refine ⟨?_, ?_, ?_, ?_, ?_, ?_, ?_, ?_⟩
  · rintro rfl; have := l.rd.hr.symm.trans l.cq; simp at this
  · rintro rfl; have := l.rd.hr.symm.trans l.ck; simp at this
  · rintro rfl; have := l.rd.hr.symm.trans l.ch; simp at this
  · rintro rfl
    have := l.rd.hr.symm.trans l.rw
    simp at this
    rw [← this] at hr; simp at hr
  · rintro rfl; have := l.cq.symm.trans l.ck; simp at this
  · rintro rfl; have := l.cq.symm.trans l.ch; simp at this
  · rintro rfl; have := l.rw.symm.trans l.ck; simp at this
  · rintro rfl; have := l.rw.symm.trans l.ch; simp at this
end
theorem GsP.focus {h : Heap} : ∀ {S : Nat → Prop} {vs : List Value} {gs : List Gv} {k : Nat} {g : Gv}, GsP h S vs gs → gs[k]? = some g → ∃ v Sk, vs[k]? = some v ∧ TreeP h Sk v g.e ∧ (∀ z, Sk z → S z) ∧
    ∀ (h' : Heap) (e' : Ex), TreeP h' Sk v e' → (∀ b o, S b → ¬ Sk b → h[b]? = some o → h'[b]? = some o) → GsP h' S vs (gs.set k ⟨g.name, g.at_, e'⟩)
  | S, [], [], k, g, e, hk => by simp at hk
  | S, v :: vs, g' :: gs, 0, g, e, hk => by
    obtain ⟨S1, S2, t, r, h1, h2⟩ := e
    cases hk
    refine ⟨v, S1, rfl, t, fun z hz => (h1 z hz).1, fun h' e' t' keep => ⟨S1, S2, t', r.keep fun b o hb ho => keep b o (h2 b hb) (fun h3 => (h1 b h3).2 hb) ho, h1, h2⟩⟩
  | S, v :: vs, g' :: gs, k + 1, g, e, hk => by
    obtain ⟨S1, S2, t, r, h1, h2⟩ := e
    obtain ⟨w, Sk, a, b, c, d⟩ := r.focus (k := k) (g := g) (by simpa using hk)
    refine ⟨w, Sk, by simpa using a, b, fun z hz => h2 z (c z hz), fun h' e' t' keep => ⟨S1, S2, t.keep fun z o hz ho => keep z o (h1 z hz).1 (fun h3 => (h1 z hz).2 (c z h3)) ho, d h' e' t' fun z o hz hn ho => keep z o (h2 z hz) hn ho, h1, h2⟩⟩
  | S, [], _ :: _, k, g, e, hk => e.elim
  | S, _ :: _, [], k, g, e, hk => e.elim
theorem zmn {kn : Kn} {rc : List Bys} : ∀ {gs l : List Gv}, zf2 kn rc true gs = .ok l → ∀ g ∈ l, g.e.set = false
  | [], l, h, g, hg => by cases h; cases hg
  | g' :: gs, l, h, g, hg => by
    rw [zf2] at h
    split at h
    · cases h
    · rename_i y hx
      split at h
      · cases h
      · rename_i hs
        split at h
        · cases h
        · rename_i m hm
          cases h
          rcases List.mem_cons.1 hg with rfl | hg
          · simpa using hs
          · exact zmn hm g hg
theorem zg9 {kn : Kn} {rc : List Bys} {b : Bool} : ∀ {gs l : List Gv}, zf2 kn rc b gs = .ok l → l.map (fun g => (g.name, g.at_)) = gs.map fun g => (g.name, g.at_)
  | [], l, h => by cases h; rfl
  | g' :: gs, l, h => by
    rw [zf2] at h
    split at h
    · cases h
    · split at h
      · cases h
      · split at h
        · cases h
        · rename_i m hm
          cases h
          simp [zg9 hm]
theorem zt3 : ∀ {gs l : List Gv} (vs : List Value), l.map (fun g => (g.name, g.at_)) = gs.map (fun g => (g.name, g.at_)) → List.zipWith qi l vs = List.zipWith qi gs vs
  | [], [], vs, h => rfl
  | [], _ :: _, vs, h => by simp at h
  | _ :: _, [], vs, h => by simp at h
  | g :: gs, f :: l, [], h => rfl
  | g :: gs, f :: l, v :: vs, h => by
    simp only [List.map_cons, List.cons.injEq, Prod.mk.injEq] at h
    rw [List.zipWith_cons_cons, List.zipWith_cons_cons, zt3 vs h.2]
    unfold qi
    rw [h.1.1, h.1.2]
theorem zw4 {gs : List Gv} {vs : List Value} (hl : vs.length = gs.length) {k : Nat} {g : Gv} {v : Value} (hg : gs[k]? = some g) (hv : vs[k]? = some v) : (List.zipWith qi gs vs)[k]? = some (qi g v) := by
  rw [List.getElem?_zipWith, hg, hv]
end Go.Proofs.YtljdbheclfaloaaGreatDoor.AM
