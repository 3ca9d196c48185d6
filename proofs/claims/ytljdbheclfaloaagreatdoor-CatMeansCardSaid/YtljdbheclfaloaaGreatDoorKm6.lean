/-
  The machine, the functions, what they come to: part 6.
  Conditions: as each says.
-/
import Derived.Test.YtljdbheclfaloaaGreatDoorKm5
namespace Go.Proofs.YtljdbheclfaloaaGreatDoor.AM
open Go.RowKit
set_option linter.unusedSimpArgs false
set_option linter.unusedVariables false

def z4 : List Value := [str [], .slice none 0 0, nilP, str []]
theorem zi7 (z0 z1 z2 a b c : Value) : wo [z0, z1, z2] [(0, 3, agg [a, b, c])] = some [a, b, c] := by
  rw [wo, yf]; simp [splice, wo]
theorem Own.slice {h H : Heap} {s : Value} {c : Nat} {rows : List (List Value)} (e : Own h H s c rows) : ∃ a n c', s = .slice a n c' := by
  rcases e with ⟨⟨rfl, _⟩ | ⟨b, ver, _, rfl, _⟩, _⟩
  · exact ⟨_, _, _, rfl⟩
  · exact ⟨_, _, _, rfl⟩
theorem yaa {P : RP} {h K3 : Heap} {i k d x a g : Nat} {rows : List (List Value)} {s x0 : Value} {w : Bys} {p : Int} {kw : Bys} (v : Value) (e : Rd P h i 0 0 0) (eK : Rd P K3 k d x a) (hg : K3[g]? = some (.cells [str w, .int .i64 p, x0] 0 false)) (hgl : h.length + 2 ≤ g) (hgs : blk s ≠ some g) (h0 : K3[h.length]? = some (.cells z4 0 false))
    (h1 : K3[h.length + 1]? = some (.cells [str kw, s, nilP, str []] 0 false)) (own : Own [] K3 s 3 rows) (hb : ∀ b, blk s = some b → h.length + 2 ≤ b) (room : rows.length ≤ 10000) (mK : Mv P h K3) :
    ∃ a' n' c' K4, k9 (K3.set g (.cells [str w, .int .i64 p, v] 0 false) ++ [.cells [str w, .int .i64 p, v] 0 false]) 3 32 s (zd4 (K3.set g (.cells [str w, .int .i64 p, v] 0 false) ++ [.cells [str w, .int .i64 p, v] 0 false]) 3 (.slice (some ⟨K3.length, 0, some 0⟩) 1 3)) = some (.slice a' n' c', K4) ∧
      K4[h.length + 1]? = some (.cells [str kw, s, nilP, str []] 0 false) ∧
      Rd P (K4.set (h.length + 1) (.cells [str kw, .slice a' n' c', nilP, str []] 0 false)) k d x a ∧ (K4.set (h.length + 1) (.cells [str kw, .slice a' n' c', nilP, str []] 0 false))[h.length]? = some (.cells z4 0 false) ∧
      (K4.set (h.length + 1) (.cells [str kw, .slice a' n' c', nilP, str []] 0 false))[h.length + 1]? = some (.cells [str kw, .slice a' n' c', nilP, str []] 0 false) ∧
      Own [] (K4.set (h.length + 1) (.cells [str kw, .slice a' n' c', nilP, str []] 0 false)) (.slice a' n' c') 3 (rows ++ [[str w, .int .i64 p, v]]) ∧ (∀ b, blk (.slice a' n' c') = some b → h.length + 2 ≤ b) ∧
      (∀ z, z < K3.length → blk s ≠ some z → blk (.slice a' n' c') ≠ some z) ∧ Mv P h (K4.set (h.length + 1) (.cells [str kw, .slice a' n' c', nilP, str []] 0 false)) ∧
      (∀ b o, K3[b]? = some o → b ≠ g → b ≠ h.length + 1 → blk s ≠ some b → (K4.set (h.length + 1) (.cells [str kw, .slice a' n' c', nilP, str []] 0 false))[b]? = some o) ∧ K3.length ≤ (K4.set (h.length + 1) (.cells [str kw, .slice a' n' c', nilP, str []] 0 false)).length := by
  have lr := e.lr; have lc := e.lc
  have own2 : Own [] (K3.set g (.cells [str w, .int .i64 p, v] 0 false)) s 3 rows := own.keep fun b hb' o ho => by rw [List.getElem?_set_ne (by rintro rfl; exact hgs hb')]; exact ho
  obtain ⟨s', K4, q1, q2, q3, q4, q5, q6⟩ := own2.push (⟨_, rfl⟩ : Pre [] _) (row := [str w, .int .i64 p, v]) (bytes := 32) rfl (by unfold fp; omega)
  rw [List.length_set] at q1 q4 q6
  have hbn : ∀ b, b < h.length + 2 → blk s ≠ some b := fun b hlt hbb => by have := hb b hbb; omega
  have old : ∀ b o, K3[b]? = some o → b ≠ g → blk s ≠ some b → K4[b]? = some o := fun b o ho n1 n2 => q5 b o (by rw [List.getElem?_set_ne (Ne.symm n1)]; exact ho) n2
  obtain ⟨a', n', c', rfl⟩ := q2.slice
  have f1 : K4[h.length + 1]? = some (.cells [str kw, s, nilP, str []] 0 false) := old _ _ h1 (by omega) (hbn _ (by omega))
  have hlt : h.length + 1 < K4.length := (List.getElem?_eq_some_iff.1 f1).1
  have blk' : ∀ b, blk (.slice a' n' c') = some b → h.length + 2 ≤ b := fun b hb' => by
    rcases q6 with q6 | ⟨j, q6, q7⟩
    · rw [q6] at hb'; exact hb b hb'
    · rw [q6] at hb'; cases hb'
      have := (List.getElem?_eq_some_iff.1 hg).1; omega
  have keep : ∀ b o, K3[b]? = some o → b ≠ g → b ≠ h.length + 1 → blk s ≠ some b → (K4.set (h.length + 1) (.cells [str kw, .slice a' n' c', nilP, str []] 0 false))[b]? = some o := fun b o ho n1 n2 n3 => by
    rw [List.getElem?_set_ne (Ne.symm n2)]; exact old b o ho n1 n3
  have m2 : Mv P K3 K4 → True := fun _ => trivial
  have mE : Mv P h (K4.set (h.length + 1) (.cells [str kw, .slice a' n' c', nilP, str []] 0 false)) := ⟨fun b o ho n1 n2 => by
    have hl := (List.getElem?_eq_some_iff.1 ho).1
    exact keep b o (mK.keep b o ho n1 n2) (by omega) (by omega) (hbn b (by omega)), by rw [List.length_set]; have := mK.le; omega⟩
  refine ⟨a', n', c', K4, q1, f1, ?_, ?_, ?_, ?_, blk', ?_, mE, keep, by rw [List.length_set]; omega⟩
  · exact ⟨keep _ _ eK.hr (by omega) (by omega) (hbn _ (by omega)), keep _ _ eK.hc (by omega) (by omega) (hbn _ (by omega)),
      eK.sw.keep fun b hb' o ho => by have := e.sw.lt hb'; exact keep b o ho (by omega) (by omega) (hbn b (by omega)), eK.sc.keep fun b hb' o ho => by have := e.sc.lt hb'; exact keep b o ho (by omega) (by omega) (hbn b (by omega)), eK.le⟩
  · exact keep _ _ h0 (by omega) (by omega) (hbn _ (by omega))
  · rw [List.getElem?_set_self hlt]
  · exact q2.keep fun b hb' o ho => by rw [List.getElem?_set_ne (by have := blk' b hb'; omega)]; exact ho
  · intro z hz hzs hb'
    rcases q6 with q6 | ⟨j, q6, q7⟩
    · rw [q6] at hb'; exact hzs hb'
    · rw [q6] at hb'; cases hb'; omega
def StR (P : RP) (h : Heap) (v : Value) (h' : Heap) : PR Stm → Prop
  | .ok s r => ∃ row k, v = agg row ∧ r = P.L.drop k ∧ Rd P h' k 0 0 0 ∧ StP h' (Iv h.length h'.length) row s ∧ Mv P h h'
  | .bad c p => ∃ row, v = agg row ∧ row.length = 4 ∧ c ≠ 0 ∧ (∃ k, Rd P h' k 0 c p) ∧ Mv P h h'
def LetS (P : RP) (h : Heap) (R : PR Stm) (rc : Bool) (m : Nat) (K : Heap) (k : Nat) : Prop :=
  ∃ s vs S acc, m = P.L.length - k + 1 ∧ Rd P K k 0 0 0 ∧ K[h.length]? = some (.cells z4 0 false) ∧ K[h.length + 1]? = some (.cells [str (kwOf rc), s, nilP, str []] 0 false) ∧ Own [] K s 3 (List.zipWith qd acc vs) ∧ GsP K S vs acc ∧
    (∀ z, S z → h.length + 2 ≤ z ∧ z < K.length ∧ blk s ≠ some z) ∧ (∀ b, blk s = some b → h.length + 2 ≤ b) ∧ Mv P h K ∧ acc.length ≤ k ∧
    (match zam P.en (P.L.length + 1) (P.L.drop k) with | .bad c a => R = .bad c a | .ok gs r => R = .ok (.lets rc (acc ++ gs)) r)
def LetI (P : RP) (h : Heap) (R : PR Stm) (rc : Bool) (i : Nat) (m : Nat) (st : St) : Prop := ∃ K k, i < k ∧ (∃ j : Nat → Value, st = ⟨[pt P.r, j 1, pt h.length, pt (h.length + 1), j 4, j 5, j 6, j 7, j 8, j 9, j 10, j 11, j 12, j 13, j 14, j 15, j 16, j 17, j 18, j 19, j 20, j 21, j 22, j 23, j 24, j 25, j 26, j 27, j 28, j 29, j 30, j 31, j 32, j 33, j 34, j 35, j 36, j 37, j 38, j 39, j 40, j 41, j 42, j 43, j 44, j 45, j 46, j 47, j 48, j 49, j 50, j 51, j 52, j 53, j 54, j 55, j 56, j 57, j 58, j 59, j 60, j 61, j 62, j 63, j 64, j 65, j 66, j 67, j 68, j 69, j 70, j 71, j 72, j 73, j 74, j 75, j 76, j 77, j 78, j 79, j 80, j 81, j 82, j 83, j 84, j 85, j 86, j 87, j 88, j 89, j 90, j 91, j 92, j 93, j 94, j 95, j 96, j 97], K⟩) ∧ LetS P h R rc m K k
theorem zek {vs : List Value} {gs : List Gv} (h : vs.length = gs.length) : (List.zipWith qd gs vs).length = gs.length := by simp [h]
theorem yak {vs : List Value} {gs : List Gv} (h : vs.length = gs.length) (g : Gv) (v : Value) : List.zipWith qd (gs ++ [g]) (vs ++ [v]) = List.zipWith qd gs vs ++ [qd g v] := by
  rw [List.zipWith_append h.symm]; rfl
theorem yel (P : RP) (k : Nat) : zma P.en (P.L.drop k) = if zb0 (y5 P k) then (if keyT (y5 P (k + 1)) == [61] then (match zlt P.en 32 (P.L.drop (k + 1 + 1)) with
      | .bad c a => .bad c a
      | .ok x r2 => .ok ⟨(y5 P k).text, (y5 P k).at_, x⟩ r2) else .bad (zas P (k + 1)) (zbe P (k + 1))) else .bad (zas P k) (zbe P k) := by
  unfold zma
  rw [zup]
  cases zb0 (y5 P k)
  · rfl
  · simp only [if_true]
    rw [yfy P (k + 1) (m := [61]) (by simp)]
    cases (keyT (y5 P (k + 1)) == [61])
    · rfl
    · simp only [if_true]; rfl
end Go.Proofs.YtljdbheclfaloaaGreatDoor.AM
namespace Go.Proofs.YtljdbheclfaloaaGreatDoor.AM
open Go.RowKit
set_option linter.unusedSimpArgs false
set_option linter.unusedVariables false

theorem zpq {P : RP} {h K : Heap} {i k : Nat} {rc : Bool} {R : PR Stm} (e : Rd P h i 0 0 0) {s : Value} {vs : List Value} {S : Nat → Prop} {acc : List Gv} (eK : Rd P K k 0 0 0) (hz0 : K[h.length]? = some (.cells z4 0 false)) (hz1 : K[h.length + 1]? = some (.cells [str (kwOf rc), s, nilP, str []] 0 false)) (own : Own [] K s 3 (List.zipWith qd acc vs)) (gs : GsP K S vs acc)
    (hS : ∀ z, S z → h.length + 2 ≤ z ∧ z < K.length ∧ blk s ≠ some z) (hb : ∀ b, blk s = some b → h.length + 2 ≤ b) (mK : Mv P h K) (hacc : acc.length ≤ k)
    (hg : (match zam P.en (P.L.length + 1) (P.L.drop k) with | .bad c a => R = .bad c a | .ok gs r => R = .ok (.lets rc (acc ++ gs)) r)) :
    ∃ w p K1 K2 K3 b a' n' c' K4 k3 x a, DF FF jq [pt P.r] (K ++ [.cells [str [], .int .i64 0, nilP] 0 false]) = some (tup [str w, .int .i64 p], K1) ∧ K1[K.length]? = some (.cells [str [], .int .i64 0, nilP] 0 false) ∧
      DF FF v7 [pt P.r, str [61]] (K1.set K.length (.cells [str w, .int .i64 p, nilP] 0 false)) = some (tup [], K2) ∧ DF FF xw [pt P.r] K2 = some (pt b, K3) ∧ K3[K.length]? = some (.cells [str w, .int .i64 p, nilP] 0 false) ∧
      K3[h.length + 1]? = some (.cells [str (kwOf rc), s, nilP, str []] 0 false) ∧
      k9 (K3.set K.length (.cells [str w, .int .i64 p, pt b] 0 false) ++ [.cells [str w, .int .i64 p, pt b] 0 false]) 3 32 s (zd4 (K3.set K.length (.cells [str w, .int .i64 p, pt b] 0 false) ++ [.cells [str w, .int .i64 p, pt b] 0 false]) 3 (.slice (some ⟨K3.length, 0, some 0⟩) 1 3)) = some (.slice a' n' c', K4) ∧
      K4[h.length + 1]? = some (.cells [str (kwOf rc), s, nilP, str []] 0 false) ∧
      Rd P (K4.set (h.length + 1) (.cells [str (kwOf rc), .slice a' n' c', nilP, str []] 0 false)) k3 0 x a ∧ Mv P h (K4.set (h.length + 1) (.cells [str (kwOf rc), .slice a' n' c', nilP, str []] 0 false)) ∧
      (K4.set (h.length + 1) (.cells [str (kwOf rc), .slice a' n' c', nilP, str []] 0 false))[h.length]? = some (.cells z4 0 false) ∧
      (K4.set (h.length + 1) (.cells [str (kwOf rc), .slice a' n' c', nilP, str []] 0 false))[h.length + 1]? = some (.cells [str (kwOf rc), .slice a' n' c', nilP, str []] 0 false) ∧
      ((x ≠ 0 ∧ R = .bad x a) ∨ (x = 0 ∧ a = 0 ∧ k < k3 ∧ ∃ S' g, Own [] (K4.set (h.length + 1) (.cells [str (kwOf rc), .slice a' n' c', nilP, str []] 0 false)) (.slice a' n' c') 3 (List.zipWith qd (acc ++ [g]) (vs ++ [pt b])) ∧
        GsP (K4.set (h.length + 1) (.cells [str (kwOf rc), .slice a' n' c', nilP, str []] 0 false)) S' (vs ++ [pt b]) (acc ++ [g]) ∧ (∀ z, S' z → h.length + 2 ≤ z ∧ z < (K4.set (h.length + 1) (.cells [str (kwOf rc), .slice a' n' c', nilP, str []] 0 false)).length ∧ blk (.slice a' n' c') ≠ some z) ∧ (∀ b, blk (.slice a' n' c') = some b → h.length + 2 ≤ b) ∧
        (if keyT (y5 P k3) == wAnd then (match zam P.en (P.L.length + 1) (P.L.drop (k3 + 1)) with | .bad c a => R = .bad c a | .ok gs r => R = .ok (.lets rc ((acc ++ [g]) ++ gs)) r) else R = .ok (.lets rc (acc ++ [g])) (P.L.drop k3)))) := by
  have lr := e.lr; have lc := e.lc; have hL := P.len; have lK := mK.le
  have lz := (List.getElem?_eq_some_iff.1 hz1).1
  obtain ⟨w, p, K1, q1, x1, m1⟩ := zw9 (eK.more [.cells [str [], .int .i64 0, nilP] 0 false])
  have o1 : K1[K.length]? = some (.cells [str [], .int .i64 0, nilP] 0 false) := m1.keep _ _ (by simp) (by omega) (by omega)
  have l1 := (List.getElem?_eq_some_iff.1 o1).1
  have mK1 : Mv P K K1 := (Mv.add P K _).trans m1
  have mE1 : Mv P K (K1.set K.length (.cells [str w, .int .i64 p, nilP] 0 false)) := mK1.upd (Nat.le_refl _) _
  have oE1 : (K1.set K.length (.cells [str w, .int .i64 p, nilP] 0 false))[K.length]? = some (.cells [str w, .int .i64 p, nilP] 0 false) := by rw [List.getElem?_set_self l1]
  have hgs : blk s ≠ some K.length := fun hh => by have := (own.lt hh).2; omega
  have rl : (List.zipWith qd acc vs).length ≤ 10000 := by rw [zek gs.len]; have := eK.le; omega
  -- whatever is read behind the name
  have all : ∀ (K3 : Heap) (b k3 x a : Nat), Rd P K3 k3 0 x a → Mv P (K1.set K.length (.cells [str w, .int .i64 p, nilP] 0 false)) K3 → _ := fun K3 b k3 x a e3 m3 =>
    yaa (kw := kwOf rc) (s := s) (rows := List.zipWith qd acc vs) (pt b) e e3 (m3.keep _ _ oE1 (by omega) (by omega)) (by omega) hgs ((mE1.trans m3).keep _ _ hz0 (by omega) (by omega)) ((mE1.trans m3).keep _ _ hz1 (by omega) (by omega)) (own.keep fun c hc o ho => (mE1.trans m3).keep c o ho (by have := hb c hc; omega) (by have := hb c hc; omega)) hb rl (mK.trans (mE1.trans m3))
  have o3 : ∀ K3, Mv P (K1.set K.length (.cells [str w, .int .i64 p, nilP] 0 false)) K3 → K3[K.length]? = some (.cells [str w, .int .i64 p, nilP] 0 false) ∧ K3[h.length + 1]? = some (.cells [str (kwOf rc), s, nilP, str []] 0 false) := fun K3 m3 => ⟨m3.keep _ _ oE1 (by omega) (by omega), (mE1.trans m3).keep _ _ hz1 (by omega) (by omega)⟩
  have hgv := yel P k
  have bad : ∀ c a, zma P.en (P.L.drop k) = .bad c a → R = .bad c a := fun c a hq => by rw [zy0 hq] at hg; exact hg
  cases hn : zb0 (y5 P k)
  · rw [hn, if_neg Bool.false_ne_true] at x1 hgv
    have eE1 : Rd P (K1.set K.length (.cells [str w, .int .i64 p, nilP] 0 false)) k 0 (zas P k) (zbe P k) := eK.upd x1 (Nat.le_refl _) _
    obtain ⟨b, K3, q3, e3, m3⟩ := zie _ _ _ _ _ eE1 (fh P k)
    obtain ⟨a', n', c', K4, r1, r2, r3, r4, r5, r6, r7, r8, r9, r10, r11⟩ := all K3 b k _ _ e3 m3
    exact ⟨w, p, K1, _, K3, b, a', n', c', K4, k, _, _, q1, o1, zsh eE1 (fh P k) [61], q3, (o3 K3 m3).1, (o3 K3 m3).2, r1, r2, r3, r9, r4, r5, .inl ⟨fh P k, bad _ _ hgv⟩⟩
  · rw [hn, if_pos rfl] at x1 hgv
    obtain ⟨rfl, rfl, x1⟩ := x1
    have eE1 := eK.upd x1 (Nat.le_refl _) (.cells [str (y5 P k).text, .int .i64 ((y5 P k).at_ : Int), nilP] 0 false)
    obtain ⟨K2, q2, x2, m2⟩ := zuc eE1 (m := [61]) (by simp)
    cases k61 : (keyT (y5 P (k + 1)) == [61])
    · rw [k61, if_neg Bool.false_ne_true] at x2 hgv
      obtain ⟨b, K3, q3, e3, m3⟩ := zie _ _ _ _ _ x2 (fh P (k + 1))
      obtain ⟨a', n', c', K4, r1, r2, r3, r4, r5, r6, r7, r8, r9, r10, r11⟩ := all K3 b _ _ _ e3 (m2.trans m3)
      exact ⟨_, _, K1, K2, K3, b, a', n', c', K4, _, _, _, q1, o1, q2, q3, (o3 K3 (m2.trans m3)).1, (o3 K3 (m2.trans m3)).2, r1, r2, r3, r9, r4, r5, .inl ⟨fh P (k + 1), bad _ _ hgv⟩⟩
    · rw [k61, if_pos rfl] at x2 hgv
      obtain ⟨v, K3, q3, x3⟩ := zx6 P 32 0 rfl K2 (k + 1 + 1) x2
      obtain ⟨b, rfl⟩ := x3.ptr
      cases hx : zlt P.en 32 (P.L.drop (k + 1 + 1)) with
      | bad c a =>
        rw [hx] at x3 hgv
        obtain ⟨hc, ⟨k3, e3⟩, m3, _⟩ := x3
        obtain ⟨a', n', c', K4, r1, r2, r3, r4, r5, r6, r7, r8, r9, r10, r11⟩ := all K3 b _ _ _ e3 (m2.trans m3)
        exact ⟨_, _, K1, K2, K3, b, a', n', c', K4, _, _, _, q1, o1, q2, q3, (o3 K3 (m2.trans m3)).1, (o3 K3 (m2.trans m3)).2, r1, r2, r3, r9, r4, r5, .inl ⟨hc, bad _ _ hgv⟩⟩
      | ok y r =>
        rw [hx] at x3 hgv
        obtain ⟨k3, rfl, e3, t3, m3⟩ := x3
        have m13 := m2.trans m3
        have mK3 := mE1.trans m13
        obtain ⟨a', n', c', K4, r1, r2, r3, r4, r5, r6, r7, r8, r9, r10, r11⟩ := all K3 b _ _ _ e3 m13
        have hsz := zh9 hgv
        simp only [List.length_drop] at hsz
        have l12 := m2.le
        rw [List.length_set] at l12
        have l3 := m3.le
        refine ⟨_, _, K1, K2, K3, b, a', n', c', K4, k3, 0, 0, q1, o1, q2, q3, (o3 K3 m13).1, (o3 K3 m13).2, r1, r2, r3, r9, r4, r5, .inr ⟨rfl, rfl, by omega, fun z => S z ∨ Iv K2.length K3.length z, ⟨(y5 P k).text, (y5 P k).at_, y⟩, ?_, ?_, ?_, r7, ?_⟩⟩
        · rw [yak gs.len]; exact r6
        · refine GsP.snoc (t3.keep fun c o hc ho => r10 c o ho (by have := hc.1; omega) (by have := hc.1; omega) fun hh => by have := (own.lt hh).2; have := hc.1; omega) (gs.keep fun c o hc ho => r10 c o (mK3.keep c o ho (by have := (hS c hc).1; omega) (by have := (hS c hc).1; omega)) (by have := (hS c hc).2.1; omega) (by have := (hS c hc).1; omega) (hS c hc).2.2) fun z hz hT => by have := (hS z hz).2.1; have := hT.1; omega
        · intro z hz
          rcases hz with hz | hz
          · obtain ⟨s1, s2, s3⟩ := hS z hz
            exact ⟨s1, by omega, r8 z (by omega) s3⟩
          · have := hz.1; have := hz.2
            exact ⟨by omega, by omega, r8 z (by omega) fun hh => by have := (own.lt hh).2; omega⟩
        · rw [yb9 hgv] at hg
          cases kw : (keyT (y5 P k3) == wAnd)
          · rw [kw, if_neg Bool.false_ne_true] at hg
            rw [if_neg Bool.false_ne_true]; exact hg
          · rw [kw, if_pos rfl] at hg
            rw [if_pos rfl]
            cases hq : zam P.en (P.L.length + 1) (P.L.drop (k3 + 1)) with
            | bad c a => rw [hq] at hg; exact hg
            | ok gs2 r => rw [hq] at hg; simp only at hg ⊢; rw [hg]; simp
end Go.Proofs.YtljdbheclfaloaaGreatDoor.AM
namespace Go.Proofs.YtljdbheclfaloaaGreatDoor.AM
open Go.RowKit
set_option linter.unusedSimpArgs false
set_option linter.unusedVariables false

theorem zqb {P : RP} {h : Heap} {R : PR Stm} (rc : Bool) (K : Heap) (k : Nat) (eK : Rd P K k 0 0 0) (mK : Mv P h K) (h0 : K[h.length]? = some (.cells z4 0 false)) (h1 : K[h.length + 1]? = some (.cells [str (kwOf rc), .slice none 0 0, nilP, str []] 0 false)) (hRk : R = zoj P.en rc (P.L.drop k)) : LetS P h R rc (P.L.length - k + 1) K k := by
  refine ⟨.slice none 0 0, [], fun _ => False, [], rfl, eK, h0, h1, Own.nil _ _ _, trivial, fun z hz => hz.elim, by intro b hb; simp [blk] at hb, mK, Nat.zero_le _, ?_⟩
  unfold zoj at hRk
  rw [zg9 P.en _ (P.L.length + 1) (P.L.drop k) (Nat.lt_succ_self _) (by simp; omega)] at hRk
  rw [hRk]
  cases zam P.en (P.L.length + 1) (P.L.drop k) <;> rfl
theorem ybc {P : RP} {k k' : Nat} {c : Ck} {x : Ex} (h : zlt P.en 32 (P.L.drop k) = .ok x (P.L.drop k')) : ze6 P.en c (P.L.drop k) = if keyT (y5 P k') == wAs then (if zb0 (y5 P (k' + 1)) then .ok (.chk c x (y5 P (k' + 1)).text) (P.L.drop (k' + 1 + 1)) else .bad (zas P (k' + 1)) (zbe P (k' + 1))) else .ok (.chk c x []) (P.L.drop k') := by
  unfold ze6
  rw [h]
  by_cases hk : k' < P.L.length
  · rw [gx hk]
    simp only
    rw [zup]
    split
    · split <;> (rename_i hh; split at hh <;> first | (cases hh; done) | (rename_i hh2; cases hh; simp [hh2]) | skip)
      all_goals simp_all
    · rfl
  · rw [List.drop_eq_nil_of_le (by omega), j3 hk, ze3]; rfl
theorem Rd.finS {P : RP} {h H : Heap} {i k x a : Nat} (e : Rd P h i 0 0 0) (e' : Rd P H k 0 x a) (m : Mv P h H) (v : Value) (hne : i ≠ k ∨ x ≠ 0) : AM.finish h v H = H := e.fin e' m v (by rcases hne with h | h <;> simp [h]; omega)
theorem zxp {P : RP} {h E : Heap} {i k x a : Nat} {R : PR Stm} {rc : Bool} {a' : Option Addr} {n' c' : Nat} (e : Rd P h i 0 0 0) (e5 : Rd P E k 0 x a) (m5 : Mv P h E)
    (h1 : E[h.length + 1]? = some (.cells [str (kwOf rc), .slice a' n' c', nilP, str []] 0 false)) (hx : x ≠ 0) (hR : R = .bad x a) : StR P h (agg [str (kwOf rc), .slice a' n' c', nilP, str []]) (E.set h.length (.cells [str (kwOf rc), .slice a' n' c', nilP, str []] 0 false)) R := by
  rw [hR]
  exact ⟨_, rfl, rfl, hx, ⟨k, e.upd e5 (Nat.le_refl _) _⟩, m5.upd (Nat.le_refl _) _⟩
theorem zhc {P : RP} {h E : Heap} {i k : Nat} {c : Ck} (e : Rd P h i 0 0 0) (eE : Rd P E k 0 0 0) (mE : Mv P h E) (h0 : E[h.length]? = some (.cells z4 0 false)) (h1 : E[h.length + 1]? = some (.cells [str (ckS c), .slice none 0 0, nilP, str []] 0 false)) (hik : i < k) :
    ∃ b K3 k3 x a, DF FF xw [pt P.r] E = some (pt b, K3) ∧ K3[h.length + 1]? = some (.cells [str (ckS c), .slice none 0 0, nilP, str []] 0 false) ∧
      Rd P (K3.set (h.length + 1) (.cells [str (ckS c), .slice none 0 0, pt b, str []] 0 false)) k3 0 x a ∧ (K3.set (h.length + 1) (.cells [str (ckS c), .slice none 0 0, pt b, str []] 0 false))[h.length]? = some (.cells z4 0 false) ∧
      (K3.set (h.length + 1) (.cells [str (ckS c), .slice none 0 0, pt b, str []] 0 false))[h.length + 1]? = some (.cells [str (ckS c), .slice none 0 0, pt b, str []] 0 false) ∧
      ((x ≠ 0 ∧ (∀ v, AM.finish h v ((K3.set (h.length + 1) (.cells [str (ckS c), .slice none 0 0, pt b, str []] 0 false)).set h.length (.cells [str (ckS c), .slice none 0 0, pt b, str []] 0 false)) = (K3.set (h.length + 1) (.cells [str (ckS c), .slice none 0 0, pt b, str []] 0 false)).set h.length (.cells [str (ckS c), .slice none 0 0, pt b, str []] 0 false)) ∧
        StR P h (agg [str (ckS c), .slice none 0 0, pt b, str []]) ((K3.set (h.length + 1) (.cells [str (ckS c), .slice none 0 0, pt b, str []] 0 false)).set h.length (.cells [str (ckS c), .slice none 0 0, pt b, str []] 0 false)) (ze6 P.en c (P.L.drop k))) ∨
       (x = 0 ∧ ∃ K5, DF FF w7 [pt P.c, .slice (some ⟨K3.length, 0, some 0⟩) 1 1] (K3.set (h.length + 1) (.cells [str (ckS c), .slice none 0 0, pt b, str []] 0 false) ++ [.cells [str [97, 115]] 0 false]) = some (.bool (keyT (y5 P k3) == wAs), K5) ∧
        K5[h.length]? = some (.cells z4 0 false) ∧ K5[h.length + 1]? = some (.cells [str (ckS c), .slice none 0 0, pt b, str []] 0 false) ∧
        (((keyT (y5 P k3) == wAs) = false ∧ (∀ v, AM.finish h v (K5.set h.length (.cells [str (ckS c), .slice none 0 0, pt b, str []] 0 false)) = K5.set h.length (.cells [str (ckS c), .slice none 0 0, pt b, str []] 0 false)) ∧
          StR P h (agg [str (ckS c), .slice none 0 0, pt b, str []]) (K5.set h.length (.cells [str (ckS c), .slice none 0 0, pt b, str []] 0 false)) (ze6 P.en c (P.L.drop k))) ∨
         ((keyT (y5 P k3) == wAs) = true ∧ ∃ w p K6, DF FF jq [pt P.r] K5 = some (tup [str w, .int .i64 p], K6) ∧ K6[h.length + 1]? = some (.cells [str (ckS c), .slice none 0 0, pt b, str []] 0 false) ∧ K6[h.length]? = some (.cells z4 0 false) ∧
          (∀ v, AM.finish h v ((K6.set (h.length + 1) (.cells [str (ckS c), .slice none 0 0, pt b, str w] 0 false)).set h.length (.cells [str (ckS c), .slice none 0 0, pt b, str w] 0 false)) = (K6.set (h.length + 1) (.cells [str (ckS c), .slice none 0 0, pt b, str w] 0 false)).set h.length (.cells [str (ckS c), .slice none 0 0, pt b, str w] 0 false)) ∧
          StR P h (agg [str (ckS c), .slice none 0 0, pt b, str w]) ((K6.set (h.length + 1) (.cells [str (ckS c), .slice none 0 0, pt b, str w] 0 false)).set h.length (.cells [str (ckS c), .slice none 0 0, pt b, str w] 0 false)) (ze6 P.en c (P.L.drop k)))))) := by
  have lr := e.lr; have lc := e.lc; have lE := mE.le
  have lz := (List.getElem?_eq_some_iff.1 h1).1
  obtain ⟨v, K3, q3, x3⟩ := zx6 P 32 0 rfl E k eE
  obtain ⟨b, rfl⟩ := x3.ptr
  have m3 : Mv P E K3 := by
    cases hx : zlt P.en 32 (P.L.drop k) with
    | ok y r => rw [hx] at x3; obtain ⟨_, _, _, _, m⟩ := x3; exact m
    | bad c a => rw [hx] at x3; exact x3.2.2.1
  have t1 := m3.keep _ _ h1 (by omega) (by omega)
  have t0 := m3.keep _ _ h0 (by omega) (by omega)
  have l3 := (List.getElem?_eq_some_iff.1 t1).1
  have mF : Mv P h (K3.set (h.length + 1) (.cells [str (ckS c), .slice none 0 0, pt b, str []] 0 false)) := (mE.trans m3).upd (by omega) _
  have u0 : (K3.set (h.length + 1) (.cells [str (ckS c), .slice none 0 0, pt b, str []] 0 false))[h.length]? = some (.cells z4 0 false) := by rw [List.getElem?_set_ne (by omega)]; exact t0
  have u1 : (K3.set (h.length + 1) (.cells [str (ckS c), .slice none 0 0, pt b, str []] 0 false))[h.length + 1]? = some (.cells [str (ckS c), .slice none 0 0, pt b, str []] 0 false) := List.getElem?_set_self l3
  cases hx : zlt P.en 32 (P.L.drop k) with
  | bad ec ea =>
    rw [hx] at x3
    obtain ⟨hc, ⟨k3, e3⟩, _, _⟩ := x3
    have eF : Rd P (K3.set (h.length + 1) (.cells [str (ckS c), .slice none 0 0, pt b, str []] 0 false)) k3 0 ec ea := e.upd e3 (by omega) _
    have hR : ze6 P.en c (P.L.drop k) = .bad ec ea := by unfold ze6; rw [hx]
    refine ⟨b, K3, k3, ec, ea, q3, t1, eF, u0, u1, .inl ⟨hc, fun v => e.finS (e.upd eF (Nat.le_refl _) _) (mF.upd (Nat.le_refl _) _) v (.inr hc), ?_⟩⟩
    rw [hR]
    exact ⟨_, rfl, rfl, hc, ⟨k3, e.upd eF (Nat.le_refl _) _⟩, mF.upd (Nat.le_refl _) _⟩
  | ok y r =>
    rw [hx] at x3
    obtain ⟨k3, rfl, e3, tr, _⟩ := x3
    have hsz := zf2 _ _ _ _ _ hx
    simp only [List.length_drop] at hsz
    have eF : Rd P (K3.set (h.length + 1) (.cells [str (ckS c), .slice none 0 0, pt b, str []] 0 false)) k3 0 0 0 := e.upd e3 (by omega) _
    obtain ⟨K5, q5, e5, m5⟩ := zh2 (eF.more [.cells [str wAs] 0 false]) (m := wAs) (by simp [wAs]) (zll _ wAs)
    have m5' := (Mv.add P (K3.set (h.length + 1) (.cells [str (ckS c), .slice none 0 0, pt b, str []] 0 false)) [.cells [str wAs] 0 false]).trans m5
    have s0 := m5'.keep _ _ u0 (by omega) (by omega)
    have s1 := m5'.keep _ _ u1 (by omega) (by omega)
    have hR := ybc (c := c) hx
    have tr5 : ∀ G, Mv P K5 G → ∀ l l', TreeP ((G.set (h.length + 1) (.cells l 0 false)).set h.length (.cells l' 0 false)) (Iv h.length ((G.set (h.length + 1) (.cells l 0 false)).set h.length (.cells l' 0 false)).length) (pt b) y := fun G mG l l' =>
      (tr.keep fun z o hz ho => by
        have := hz.1
        rw [List.getElem?_set_ne (by omega), List.getElem?_set_ne (by omega)]
        exact mG.keep z o (m5'.keep z o (by rw [List.getElem?_set_ne (by omega)]; exact ho) (by omega) (by omega)) (by omega) (by omega)).weak fun z hz => ⟨by have := hz.1; omega, by have := hz.2; have h5 := m5'.le; have := mG.le; rw [List.length_set] at h5; rw [List.length_set, List.length_set]; omega⟩
    simp only [wAs, List.length_set] at q5
    refine ⟨b, K3, k3, 0, 0, q3, t1, eF, u0, u1, .inr ⟨rfl, K5, q5, s0, s1, ?_⟩⟩
    rw [hR]
    cases ka : (keyT (y5 P k3) == wAs)
    · rw [ka, if_neg Bool.false_ne_true] at e5
      rw [if_neg Bool.false_ne_true]
      refine .inl ⟨rfl, fun v => e.finS (e.upd e5 (Nat.le_refl _) _) ((mF.trans m5').upd (Nat.le_refl _) _) v (.inl (by omega)), _, k3, rfl, rfl, e.upd e5 (Nat.le_refl _) _, ⟨pt b, rfl, ?_⟩, (mF.trans m5').upd (Nat.le_refl _) _⟩
      have := tr5 K5 (Mv.refl P K5) [str (ckS c), .slice none 0 0, pt b, str []] [str (ckS c), .slice none 0 0, pt b, str []]
      rwa [yad s1] at this
    · rw [ka, if_pos rfl] at e5
      rw [if_pos rfl]
      obtain ⟨w, p, K6, q6, x6, m6⟩ := zw9 e5
      have s0' := m6.keep _ _ s0 (by omega) (by omega)
      have s1' := m6.keep _ _ s1 (by omega) (by omega)
      have mG := (((mF.trans m5').trans m6).upd (b := h.length + 1) (by omega) (.cells [str (ckS c), .slice none 0 0, pt b, str w] 0 false)).upd (Nat.le_refl _) (.cells [str (ckS c), .slice none 0 0, pt b, str w] 0 false)
      cases hn : zb0 (y5 P (k3 + 1))
      · rw [hn, if_neg Bool.false_ne_true] at x6
        rw [if_neg Bool.false_ne_true]
        have eG : Rd P ((K6.set (h.length + 1) (.cells [str (ckS c), .slice none 0 0, pt b, str w] 0 false)).set h.length (.cells [str (ckS c), .slice none 0 0, pt b, str w] 0 false)) _ 0 _ _ := e.upd (e.upd x6 (by omega) _) (Nat.le_refl _) _
        exact .inr ⟨rfl, w, p, K6, q6, s1', s0', fun v => e.finS eG mG v (.inr (fh P _)), _, rfl, rfl, fh P _, ⟨_, eG⟩, mG⟩
      · rw [hn, if_pos rfl] at x6
        rw [if_pos rfl]
        obtain ⟨rfl, rfl, x6⟩ := x6
        have eG : Rd P ((K6.set (h.length + 1) (.cells [str (ckS c), .slice none 0 0, pt b, str (y5 P (k3 + 1)).text] 0 false)).set h.length (.cells [str (ckS c), .slice none 0 0, pt b, str (y5 P (k3 + 1)).text] 0 false)) _ 0 _ _ := e.upd (e.upd x6 (by omega) _) (Nat.le_refl _) _
        exact .inr ⟨rfl, _, _, K6, q6, s1', s0', fun v => e.finS eG mG v (.inl (by omega)), _, _, rfl, rfl, eG, ⟨pt b, rfl, tr5 K6 m6 _ _⟩, mG⟩
set_option maxHeartbeats 8000000 in
theorem zsd {P : RP} {h : Heap} {i : Nat} (e : Rd P h i 0 0 0) (hi : i < P.L.length) : ∃ v h', DF FF gn [pt P.r] h = some (v, h') ∧ StR P h v h' (zj2 P.en (P.L.drop i)) := by
  refine wz zfc ?_
  have lr := e.lr; have lc := e.lc; have hL := P.len
  obtain ⟨R, hR⟩ : ∃ R, R = zj2 P.en (P.L.drop i) := ⟨_, rfl⟩
  rw [← hR]
  rw [gx hi, zj2] at hR
  have e0 := e.more [.cells z4 0 false, .cells z4 0 false]
  have m0 : Mv P h (h ++ [.cells z4 0 false, .cells z4 0 false]) := Mv.add P h _
  obtain ⟨H0, hH0⟩ : ∃ H0, H0 = h ++ [AObj.cells z4 0 false, .cells z4 0 false] := ⟨_, rfl⟩
  have o1 : H0[h.length]? = some (.cells z4 0 false) := by rw [hH0]; simp
  have o2 : H0[h.length + 1]? = some (.cells z4 0 false) := by rw [hH0]; simp
  have l2 : H0.length = h.length + 2 := by rw [hH0]; simp
  rw [← hH0] at e0 m0
  have hz : H0 = h ++ [AObj.cells [str [], .slice none 0 0, .pointer none, str []] 0 false, .cells [str [], .slice none 0 0, .pointer none, str []] 0 false] := hH0
  obtain ⟨K1, q1, e1, m1⟩ := zh2 (e0.more [.cells [str wLet] 0 false]) (m := wLet) (by simp [wLet]) (zll H0 wLet)
  have m1' : Mv P H0 K1 := (Mv.add P H0 _).trans m1
  have p1 : ∀ K, Mv P H0 K → K[h.length]? = some (.cells z4 0 false) := fun K m => m.keep _ _ o1 (by omega) (by omega)
  have p2 : ∀ K, Mv P H0 K → K[h.length + 1]? = some (.cells z4 0 false) := fun K m => m.keep _ _ o2 (by omega) (by omega)
  simp only [wLet] at q1
  cases kl : (keyT (y5 P i) == wLet)
  · rw [kl, if_neg Bool.false_ne_true] at e1 hR
    rw [show (keyT (y5 P i) == [108, 101, 116]) = false from kl] at q1
    obtain ⟨K2, q2, e2, m2⟩ := zh2 (e1.more [.cells [str zae] 0 false]) (m := zae) (by simp [zae]) (zll K1 zae)
    have m2' : Mv P H0 K2 := (m1'.trans (Mv.add P K1 _)).trans m2
    simp only [zae] at q2
    cases kacyclic : (keyT (y5 P i) == zae)
    rotate_left
    · rw [kacyclic, if_pos rfl] at e2 hR
      rw [show (keyT (y5 P i) == [97, 99, 121, 99, 108, 105, 99]) = true from kacyclic] at q2
      have oK := p2 K2 m2'
      have lzK := (List.getElem?_eq_some_iff.1 oK).1
      obtain ⟨E, hE⟩ : ∃ E, E = K2.set (h.length + 1) (.cells [str (ckS .acyclic), .slice none 0 0, nilP, str []] 0 false) := ⟨_, rfl⟩
      have wE : Heap.write1 K2 ⟨h.length + 1, 0, some 0⟩ (str [97, 99, 121, 99, 108, 105, 99]) = some E := by rw [po oK (by simp [z4]), hE]; rfl
      have eE : Rd P E (i + 1) 0 0 0 := by rw [hE]; exact e.upd e2 (by omega) _
      have mE : Mv P h E := by rw [hE]; exact (m0.trans m2').upd (by omega) _
      have zE : E[h.length]? = some (.cells z4 0 false) := by rw [hE, List.getElem?_set_ne (by omega)]; exact p1 K2 m2'
      have uE : E[h.length + 1]? = some (.cells [str (ckS .acyclic), .slice none 0 0, nilP, str []] 0 false) := by rw [hE, List.getElem?_set_self lzK]
      obtain ⟨b, K3, k3, x, a, c1, c2, c3, c4, c5, c6⟩ := zhc e eE mE zE uE (by omega)
      have wF : Heap.write1 K3 ⟨h.length + 1, 2, some 0⟩ (pt b) = some (K3.set (h.length + 1) (.cells [str (ckS .acyclic), .slice none 0 0, pt b, str []] 0 false)) := by rw [po c2 (by simp)]; rfl
      rw [hR]
      rcases c6 with ⟨hx, f1, f2⟩ | ⟨rfl, K5, d1, d2, d3, ⟨ka, f1, f2⟩ | ⟨ka, w, p, K6, g1, g2, g3, f1, f2⟩⟩
      · have rd3 : Heap.read (K3.set (h.length + 1) (.cells [str (ckS .acyclic), .slice none 0 0, pt b, str []] 0 false)) ⟨h.length + 1, 0, some 0⟩ 4 = some [str (ckS .acyclic), .slice none 0 0, pt b, str []] := zjy c5 (by simp)
        have wr5 : Heap.write (K3.set (h.length + 1) (.cells [str (ckS .acyclic), .slice none 0 0, pt b, str []] 0 false)) ⟨h.length, 0, some 0⟩ [str (ckS .acyclic), .slice none 0 0, pt b, str []] = some ((K3.set (h.length + 1) (.cells [str (ckS .acyclic), .slice none 0 0, pt b, str []] 0 false)).set h.length (.cells [str (ckS .acyclic), .slice none 0 0, pt b, str []] 0 false)) := zcx c4 (by simp [z4])
        have rd4 : Heap.read ((K3.set (h.length + 1) (.cells [str (ckS .acyclic), .slice none 0 0, pt b, str []] 0 false)).set h.length (.cells [str (ckS .acyclic), .slice none 0 0, pt b, str []] 0 false)) ⟨h.length, 0, some 0⟩ 4 = some [str (ckS .acyclic), .slice none 0 0, pt b, str []] := fi (List.getElem?_eq_some_iff.1 c4).1 (by simp)
        simp only [xt, ya, zt, xf, yo, zb, zz, zw, yb, zn, yi, zc, zp, vq, zo, zf, ze, zd, List.set_cons_succ, List.set_cons_zero, O_mv, y3, xj, yg, ye, List.map_cons, List.map_nil, zx, zk, xr, y4, vd, w6, yd, z8, xe, xg, yx, Nat.lt_add_one, List.cons_append, List.nil_append, List.length_cons, List.length_nil, Nat.reduceAdd, Nat.reduceSub, Nat.zero_add, zm, yc, zy, za, zi, slc, yq, xb, z7, zl, xc, qr, yu, z6, zq, zj, zg, zh, List.append_assoc, List.length_append, List.append_nil, Nat.add_zero, Option.map_some, List.getElem?_cons_zero, eq_self, yk, wm, Option.map_some, wn, zau, jr, j6, ← hz, e0.r0, q1,  e1.r0, q2, wE, c1, wF, fd c3 hx, rd3, wr5, rd4, f1]
        exact f2
      · rw [ka] at d1
        have rd3 : Heap.read K5 ⟨h.length + 1, 0, some 0⟩ 4 = some [str (ckS .acyclic), .slice none 0 0, pt b, str []] := zjy d3 (by simp)
        have wr5 : Heap.write K5 ⟨h.length, 0, some 0⟩ [str (ckS .acyclic), .slice none 0 0, pt b, str []] = some (K5.set h.length (.cells [str (ckS .acyclic), .slice none 0 0, pt b, str []] 0 false)) := zcx d2 (by simp [z4])
        have rd4 : Heap.read (K5.set h.length (.cells [str (ckS .acyclic), .slice none 0 0, pt b, str []] 0 false)) ⟨h.length, 0, some 0⟩ 4 = some [str (ckS .acyclic), .slice none 0 0, pt b, str []] := fi (List.getElem?_eq_some_iff.1 d2).1 (by simp)
        simp only [xt, ya, zt, xf, yo, zb, zz, zw, yb, zn, yi, zc, zp, xy, zo, zf, ze, zd, List.set_cons_succ, List.set_cons_zero, O_mv, y3, xj, yg, ye, List.map_cons, List.map_nil, zx, zk, xr, y4, vd, w6, yd, z8, xe, xg, yx, Nat.lt_add_one, List.cons_append, List.nil_append, List.length_cons, List.length_nil, Nat.reduceAdd, Nat.reduceSub, Nat.zero_add, zm, yc, zy, za, zi, slc, yq, xb, z7, zl, xc, qr, yu, z6, zq, zj, zg, zh, List.append_assoc, List.length_append, List.append_nil, Nat.add_zero, Option.map_some, List.getElem?_cons_zero, eq_self, yk, wm, Option.map_some, wn, zau, jr, j6, ← hz, e0.r0, q1,  e1.r0, q2, wE, c1, wF, ok_0 c3, c3.r0, List.length_set, d1, rd3, wr5, rd4, f1]
        exact f2
      · rw [ka] at d1
        have wG : Heap.write1 K6 ⟨h.length + 1, 3, some 0⟩ (str w) = some (K6.set (h.length + 1) (.cells [str (ckS .acyclic), .slice none 0 0, pt b, str w] 0 false)) := by rw [po g2 (by simp)]; rfl
        have rd3 : Heap.read (K6.set (h.length + 1) (.cells [str (ckS .acyclic), .slice none 0 0, pt b, str w] 0 false)) ⟨h.length + 1, 0, some 0⟩ 4 = some [str (ckS .acyclic), .slice none 0 0, pt b, str w] := fi (List.getElem?_eq_some_iff.1 g2).1 (by simp)
        have g3' : (K6.set (h.length + 1) (.cells [str (ckS .acyclic), .slice none 0 0, pt b, str w] 0 false))[h.length]? = some (.cells z4 0 false) := by rw [List.getElem?_set_ne (by omega)]; exact g3
        have wr5 : Heap.write (K6.set (h.length + 1) (.cells [str (ckS .acyclic), .slice none 0 0, pt b, str w] 0 false)) ⟨h.length, 0, some 0⟩ [str (ckS .acyclic), .slice none 0 0, pt b, str w] = some ((K6.set (h.length + 1) (.cells [str (ckS .acyclic), .slice none 0 0, pt b, str w] 0 false)).set h.length (.cells [str (ckS .acyclic), .slice none 0 0, pt b, str w] 0 false)) := zcx g3' (by simp [z4])
        have rd4 : Heap.read ((K6.set (h.length + 1) (.cells [str (ckS .acyclic), .slice none 0 0, pt b, str w] 0 false)).set h.length (.cells [str (ckS .acyclic), .slice none 0 0, pt b, str w] 0 false)) ⟨h.length, 0, some 0⟩ 4 = some [str (ckS .acyclic), .slice none 0 0, pt b, str w] := fi (List.getElem?_eq_some_iff.1 g3').1 (by simp)
        simp only [xt, ya, zt, xf, zb, zz, zw, yb, zn, yi, zc, zp, xy, zo, zf, ze, zd, List.set_cons_succ, List.set_cons_zero, O_mv, y3, xj, yg, ye, List.map_cons, List.map_nil, zx, zk, xr, y4, vd, w6, yd, z8, xe, xg, yx, Nat.lt_add_one, List.cons_append, List.nil_append, List.length_cons, List.length_nil, Nat.reduceAdd, Nat.reduceSub, Nat.zero_add, zm, yc, zy, za, zi, slc, yq, xb, z7, xh, y8, zl, xc, qr, yu, z6, zq, zj, zg, zh, List.append_assoc, List.length_append, List.append_nil, Nat.add_zero, Option.map_some, List.getElem?_cons_zero, List.getElem?_cons_succ, eq_self, yk, wm, Option.map_some, wn, zau, jr, j6, ← hz, e0.r0, q1,  e1.r0, q2, wE, c1, wF, ok_0 c3, c3.r0, List.length_set, d1, g1, wG, rd3, wr5, rd4, f1]
        exact f2
    rw [kacyclic, if_neg Bool.false_ne_true] at e2 hR
    rw [show (keyT (y5 P i) == [97, 99, 121, 99, 108, 105, 99]) = false from kacyclic] at q2
    obtain ⟨K3, q3, e3, m3⟩ := zh2 (e2.more [.cells [str wIrr] 0 false]) (m := wIrr) (by simp [wIrr]) (zll K2 wIrr)
    have m3' : Mv P H0 K3 := (m2'.trans (Mv.add P K2 _)).trans m3
    simp only [wIrr] at q3
    cases kirr : (keyT (y5 P i) == wIrr)
    rotate_left
    · rw [kirr, if_pos rfl] at e3 hR
      rw [show (keyT (y5 P i) == [105, 114, 114, 101, 102, 108, 101, 120, 105, 118, 101]) = true from kirr] at q3
      have oK := p2 K3 m3'
      have lzK := (List.getElem?_eq_some_iff.1 oK).1
      obtain ⟨E, hE⟩ : ∃ E, E = K3.set (h.length + 1) (.cells [str (ckS .irr), .slice none 0 0, nilP, str []] 0 false) := ⟨_, rfl⟩
      have wE : Heap.write1 K3 ⟨h.length + 1, 0, some 0⟩ (str [105, 114, 114, 101, 102, 108, 101, 120, 105, 118, 101]) = some E := by rw [po oK (by simp [z4]), hE]; rfl
      have eE : Rd P E (i + 1) 0 0 0 := by rw [hE]; exact e.upd e3 (by omega) _
      have mE : Mv P h E := by rw [hE]; exact (m0.trans m3').upd (by omega) _
      have zE : E[h.length]? = some (.cells z4 0 false) := by rw [hE, List.getElem?_set_ne (by omega)]; exact p1 K3 m3'
      have uE : E[h.length + 1]? = some (.cells [str (ckS .irr), .slice none 0 0, nilP, str []] 0 false) := by rw [hE, List.getElem?_set_self lzK]
      obtain ⟨b, K3, k3, x, a, c1, c2, c3, c4, c5, c6⟩ := zhc e eE mE zE uE (by omega)
      have wF : Heap.write1 K3 ⟨h.length + 1, 2, some 0⟩ (pt b) = some (K3.set (h.length + 1) (.cells [str (ckS .irr), .slice none 0 0, pt b, str []] 0 false)) := by rw [po c2 (by simp)]; rfl
      rw [hR]
      rcases c6 with ⟨hx, f1, f2⟩ | ⟨rfl, K5, d1, d2, d3, ⟨ka, f1, f2⟩ | ⟨ka, w, p, K6, g1, g2, g3, f1, f2⟩⟩
      · have rd3 : Heap.read (K3.set (h.length + 1) (.cells [str (ckS .irr), .slice none 0 0, pt b, str []] 0 false)) ⟨h.length + 1, 0, some 0⟩ 4 = some [str (ckS .irr), .slice none 0 0, pt b, str []] := zjy c5 (by simp)
        have wr5 : Heap.write (K3.set (h.length + 1) (.cells [str (ckS .irr), .slice none 0 0, pt b, str []] 0 false)) ⟨h.length, 0, some 0⟩ [str (ckS .irr), .slice none 0 0, pt b, str []] = some ((K3.set (h.length + 1) (.cells [str (ckS .irr), .slice none 0 0, pt b, str []] 0 false)).set h.length (.cells [str (ckS .irr), .slice none 0 0, pt b, str []] 0 false)) := zcx c4 (by simp [z4])
        have rd4 : Heap.read ((K3.set (h.length + 1) (.cells [str (ckS .irr), .slice none 0 0, pt b, str []] 0 false)).set h.length (.cells [str (ckS .irr), .slice none 0 0, pt b, str []] 0 false)) ⟨h.length, 0, some 0⟩ 4 = some [str (ckS .irr), .slice none 0 0, pt b, str []] := fi (List.getElem?_eq_some_iff.1 c4).1 (by simp)
        simp only [xt, ya, zt, xf, yo, zb, zz, zw, yb, zn, yi, zc, zp, vq, zo, zf, ze, zd, List.set_cons_succ, List.set_cons_zero, O_mv, y3, xj, yg, ye, List.map_cons, List.map_nil, zx, zk, xr, y4, vd, w6, yd, z8, xe, xg, yx, Nat.lt_add_one, List.cons_append, List.nil_append, List.length_cons, List.length_nil, Nat.reduceAdd, Nat.reduceSub, Nat.zero_add, zm, yc, zy, za, zi, slc, yq, xb, z7, zl, xc, qr, yu, z6, zq, zj, zg, zh, List.append_assoc, List.length_append, List.append_nil, Nat.add_zero, Option.map_some, List.getElem?_cons_zero, eq_self, yk, wm, Option.map_some, wn, zau, jr, j6, ← hz, e0.r0, q1,  e1.r0, q2, e2.r0, q3, wE, c1, wF, fd c3 hx, rd3, wr5, rd4, f1]
        exact f2
      · rw [ka] at d1
        have rd3 : Heap.read K5 ⟨h.length + 1, 0, some 0⟩ 4 = some [str (ckS .irr), .slice none 0 0, pt b, str []] := zjy d3 (by simp)
        have wr5 : Heap.write K5 ⟨h.length, 0, some 0⟩ [str (ckS .irr), .slice none 0 0, pt b, str []] = some (K5.set h.length (.cells [str (ckS .irr), .slice none 0 0, pt b, str []] 0 false)) := zcx d2 (by simp [z4])
        have rd4 : Heap.read (K5.set h.length (.cells [str (ckS .irr), .slice none 0 0, pt b, str []] 0 false)) ⟨h.length, 0, some 0⟩ 4 = some [str (ckS .irr), .slice none 0 0, pt b, str []] := fi (List.getElem?_eq_some_iff.1 d2).1 (by simp)
        simp only [xt, ya, zt, xf, yo, zb, zz, zw, yb, zn, yi, zc, zp, xy, zo, zf, ze, zd, List.set_cons_succ, List.set_cons_zero, O_mv, y3, xj, yg, ye, List.map_cons, List.map_nil, zx, zk, xr, y4, vd, w6, yd, z8, xe, xg, yx, Nat.lt_add_one, List.cons_append, List.nil_append, List.length_cons, List.length_nil, Nat.reduceAdd, Nat.reduceSub, Nat.zero_add, zm, yc, zy, za, zi, slc, yq, xb, z7, zl, xc, qr, yu, z6, zq, zj, zg, zh, List.append_assoc, List.length_append, List.append_nil, Nat.add_zero, Option.map_some, List.getElem?_cons_zero, eq_self, yk, wm, Option.map_some, wn, zau, jr, j6, ← hz, e0.r0, q1,  e1.r0, q2, e2.r0, q3, wE, c1, wF, ok_0 c3, c3.r0, List.length_set, d1, rd3, wr5, rd4, f1]
        exact f2
      · rw [ka] at d1
        have wG : Heap.write1 K6 ⟨h.length + 1, 3, some 0⟩ (str w) = some (K6.set (h.length + 1) (.cells [str (ckS .irr), .slice none 0 0, pt b, str w] 0 false)) := by rw [po g2 (by simp)]; rfl
        have rd3 : Heap.read (K6.set (h.length + 1) (.cells [str (ckS .irr), .slice none 0 0, pt b, str w] 0 false)) ⟨h.length + 1, 0, some 0⟩ 4 = some [str (ckS .irr), .slice none 0 0, pt b, str w] := fi (List.getElem?_eq_some_iff.1 g2).1 (by simp)
        have g3' : (K6.set (h.length + 1) (.cells [str (ckS .irr), .slice none 0 0, pt b, str w] 0 false))[h.length]? = some (.cells z4 0 false) := by rw [List.getElem?_set_ne (by omega)]; exact g3
        have wr5 : Heap.write (K6.set (h.length + 1) (.cells [str (ckS .irr), .slice none 0 0, pt b, str w] 0 false)) ⟨h.length, 0, some 0⟩ [str (ckS .irr), .slice none 0 0, pt b, str w] = some ((K6.set (h.length + 1) (.cells [str (ckS .irr), .slice none 0 0, pt b, str w] 0 false)).set h.length (.cells [str (ckS .irr), .slice none 0 0, pt b, str w] 0 false)) := zcx g3' (by simp [z4])
        have rd4 : Heap.read ((K6.set (h.length + 1) (.cells [str (ckS .irr), .slice none 0 0, pt b, str w] 0 false)).set h.length (.cells [str (ckS .irr), .slice none 0 0, pt b, str w] 0 false)) ⟨h.length, 0, some 0⟩ 4 = some [str (ckS .irr), .slice none 0 0, pt b, str w] := fi (List.getElem?_eq_some_iff.1 g3').1 (by simp)
        simp only [xt, ya, zt, xf, zb, zz, zw, yb, zn, yi, zc, zp, xy, zo, zf, ze, zd, List.set_cons_succ, List.set_cons_zero, O_mv, y3, xj, yg, ye, List.map_cons, List.map_nil, zx, zk, xr, y4, vd, w6, yd, z8, xe, xg, yx, Nat.lt_add_one, List.cons_append, List.nil_append, List.length_cons, List.length_nil, Nat.reduceAdd, Nat.reduceSub, Nat.zero_add, zm, yc, zy, za, zi, slc, yq, xb, z7, xh, y8, zl, xc, qr, yu, z6, zq, zj, zg, zh, List.append_assoc, List.length_append, List.append_nil, Nat.add_zero, Option.map_some, List.getElem?_cons_zero, List.getElem?_cons_succ, eq_self, yk, wm, Option.map_some, wn, zau, jr, j6, ← hz, e0.r0, q1,  e1.r0, q2, e2.r0, q3, wE, c1, wF, ok_0 c3, c3.r0, List.length_set, d1, g1, wG, rd3, wr5, rd4, f1]
        exact f2
    rw [kirr, if_neg Bool.false_ne_true] at e3 hR
    rw [show (keyT (y5 P i) == [105, 114, 114, 101, 102, 108, 101, 120, 105, 118, 101]) = false from kirr] at q3
    obtain ⟨K4, q4, e4, m4⟩ := zh2 (e3.more [.cells [str zd8] 0 false]) (m := zd8) (by simp [zd8]) (zll K3 zd8)
    have m4' : Mv P H0 K4 := (m3'.trans (Mv.add P K3 _)).trans m4
    simp only [zd8] at q4
    cases kempty : (keyT (y5 P i) == zd8)
    rotate_left
    · rw [kempty, if_pos rfl] at e4 hR
      rw [show (keyT (y5 P i) == [101, 109, 112, 116, 121]) = true from kempty] at q4
      have oK := p2 K4 m4'
      have lzK := (List.getElem?_eq_some_iff.1 oK).1
      obtain ⟨E, hE⟩ : ∃ E, E = K4.set (h.length + 1) (.cells [str (ckS .empty), .slice none 0 0, nilP, str []] 0 false) := ⟨_, rfl⟩
      have wE : Heap.write1 K4 ⟨h.length + 1, 0, some 0⟩ (str [101, 109, 112, 116, 121]) = some E := by rw [po oK (by simp [z4]), hE]; rfl
      have eE : Rd P E (i + 1) 0 0 0 := by rw [hE]; exact e.upd e4 (by omega) _
      have mE : Mv P h E := by rw [hE]; exact (m0.trans m4').upd (by omega) _
      have zE : E[h.length]? = some (.cells z4 0 false) := by rw [hE, List.getElem?_set_ne (by omega)]; exact p1 K4 m4'
      have uE : E[h.length + 1]? = some (.cells [str (ckS .empty), .slice none 0 0, nilP, str []] 0 false) := by rw [hE, List.getElem?_set_self lzK]
      obtain ⟨b, K3, k3, x, a, c1, c2, c3, c4, c5, c6⟩ := zhc e eE mE zE uE (by omega)
      have wF : Heap.write1 K3 ⟨h.length + 1, 2, some 0⟩ (pt b) = some (K3.set (h.length + 1) (.cells [str (ckS .empty), .slice none 0 0, pt b, str []] 0 false)) := by rw [po c2 (by simp)]; rfl
      rw [hR]
      rcases c6 with ⟨hx, f1, f2⟩ | ⟨rfl, K5, d1, d2, d3, ⟨ka, f1, f2⟩ | ⟨ka, w, p, K6, g1, g2, g3, f1, f2⟩⟩
      · have rd3 : Heap.read (K3.set (h.length + 1) (.cells [str (ckS .empty), .slice none 0 0, pt b, str []] 0 false)) ⟨h.length + 1, 0, some 0⟩ 4 = some [str (ckS .empty), .slice none 0 0, pt b, str []] := zjy c5 (by simp)
        have wr5 : Heap.write (K3.set (h.length + 1) (.cells [str (ckS .empty), .slice none 0 0, pt b, str []] 0 false)) ⟨h.length, 0, some 0⟩ [str (ckS .empty), .slice none 0 0, pt b, str []] = some ((K3.set (h.length + 1) (.cells [str (ckS .empty), .slice none 0 0, pt b, str []] 0 false)).set h.length (.cells [str (ckS .empty), .slice none 0 0, pt b, str []] 0 false)) := zcx c4 (by simp [z4])
        have rd4 : Heap.read ((K3.set (h.length + 1) (.cells [str (ckS .empty), .slice none 0 0, pt b, str []] 0 false)).set h.length (.cells [str (ckS .empty), .slice none 0 0, pt b, str []] 0 false)) ⟨h.length, 0, some 0⟩ 4 = some [str (ckS .empty), .slice none 0 0, pt b, str []] := fi (List.getElem?_eq_some_iff.1 c4).1 (by simp)
        simp only [xt, ya, zt, xf, yo, zb, zz, zw, yb, zn, yi, zc, zp, vq, zo, zf, ze, zd, List.set_cons_succ, List.set_cons_zero, O_mv, y3, xj, yg, ye, List.map_cons, List.map_nil, zx, zk, xr, y4, vd, w6, yd, z8, xe, xg, yx, Nat.lt_add_one, List.cons_append, List.nil_append, List.length_cons, List.length_nil, Nat.reduceAdd, Nat.reduceSub, Nat.zero_add, zm, yc, zy, za, zi, slc, yq, xb, z7, zl, xc, qr, yu, z6, zq, zj, zg, zh, List.append_assoc, List.length_append, List.append_nil, Nat.add_zero, Option.map_some, List.getElem?_cons_zero, eq_self, yk, wm, Option.map_some, wn, zau, jr, j6, ← hz, e0.r0, q1,  e1.r0, q2, e2.r0, q3, e3.r0, q4, wE, c1, wF, fd c3 hx, rd3, wr5, rd4, f1]
        exact f2
      · rw [ka] at d1
        have rd3 : Heap.read K5 ⟨h.length + 1, 0, some 0⟩ 4 = some [str (ckS .empty), .slice none 0 0, pt b, str []] := zjy d3 (by simp)
        have wr5 : Heap.write K5 ⟨h.length, 0, some 0⟩ [str (ckS .empty), .slice none 0 0, pt b, str []] = some (K5.set h.length (.cells [str (ckS .empty), .slice none 0 0, pt b, str []] 0 false)) := zcx d2 (by simp [z4])
        have rd4 : Heap.read (K5.set h.length (.cells [str (ckS .empty), .slice none 0 0, pt b, str []] 0 false)) ⟨h.length, 0, some 0⟩ 4 = some [str (ckS .empty), .slice none 0 0, pt b, str []] := fi (List.getElem?_eq_some_iff.1 d2).1 (by simp)
        simp only [xt, ya, zt, xf, yo, zb, zz, zw, yb, zn, yi, zc, zp, xy, zo, zf, ze, zd, List.set_cons_succ, List.set_cons_zero, O_mv, y3, xj, yg, ye, List.map_cons, List.map_nil, zx, zk, xr, y4, vd, w6, yd, z8, xe, xg, yx, Nat.lt_add_one, List.cons_append, List.nil_append, List.length_cons, List.length_nil, Nat.reduceAdd, Nat.reduceSub, Nat.zero_add, zm, yc, zy, za, zi, slc, yq, xb, z7, zl, xc, qr, yu, z6, zq, zj, zg, zh, List.append_assoc, List.length_append, List.append_nil, Nat.add_zero, Option.map_some, List.getElem?_cons_zero, eq_self, yk, wm, Option.map_some, wn, zau, jr, j6, ← hz, e0.r0, q1,  e1.r0, q2, e2.r0, q3, e3.r0, q4, wE, c1, wF, ok_0 c3, c3.r0, List.length_set, d1, rd3, wr5, rd4, f1]
        exact f2
      · rw [ka] at d1
        have wG : Heap.write1 K6 ⟨h.length + 1, 3, some 0⟩ (str w) = some (K6.set (h.length + 1) (.cells [str (ckS .empty), .slice none 0 0, pt b, str w] 0 false)) := by rw [po g2 (by simp)]; rfl
        have rd3 : Heap.read (K6.set (h.length + 1) (.cells [str (ckS .empty), .slice none 0 0, pt b, str w] 0 false)) ⟨h.length + 1, 0, some 0⟩ 4 = some [str (ckS .empty), .slice none 0 0, pt b, str w] := fi (List.getElem?_eq_some_iff.1 g2).1 (by simp)
        have g3' : (K6.set (h.length + 1) (.cells [str (ckS .empty), .slice none 0 0, pt b, str w] 0 false))[h.length]? = some (.cells z4 0 false) := by rw [List.getElem?_set_ne (by omega)]; exact g3
        have wr5 : Heap.write (K6.set (h.length + 1) (.cells [str (ckS .empty), .slice none 0 0, pt b, str w] 0 false)) ⟨h.length, 0, some 0⟩ [str (ckS .empty), .slice none 0 0, pt b, str w] = some ((K6.set (h.length + 1) (.cells [str (ckS .empty), .slice none 0 0, pt b, str w] 0 false)).set h.length (.cells [str (ckS .empty), .slice none 0 0, pt b, str w] 0 false)) := zcx g3' (by simp [z4])
        have rd4 : Heap.read ((K6.set (h.length + 1) (.cells [str (ckS .empty), .slice none 0 0, pt b, str w] 0 false)).set h.length (.cells [str (ckS .empty), .slice none 0 0, pt b, str w] 0 false)) ⟨h.length, 0, some 0⟩ 4 = some [str (ckS .empty), .slice none 0 0, pt b, str w] := fi (List.getElem?_eq_some_iff.1 g3').1 (by simp)
        simp only [xt, ya, zt, xf, zb, zz, zw, yb, zn, yi, zc, zp, xy, zo, zf, ze, zd, List.set_cons_succ, List.set_cons_zero, O_mv, y3, xj, yg, ye, List.map_cons, List.map_nil, zx, zk, xr, y4, vd, w6, yd, z8, xe, xg, yx, Nat.lt_add_one, List.cons_append, List.nil_append, List.length_cons, List.length_nil, Nat.reduceAdd, Nat.reduceSub, Nat.zero_add, zm, yc, zy, za, zi, slc, yq, xb, z7, xh, y8, zl, xc, qr, yu, z6, zq, zj, zg, zh, List.append_assoc, List.length_append, List.append_nil, Nat.add_zero, Option.map_some, List.getElem?_cons_zero, List.getElem?_cons_succ, eq_self, yk, wm, Option.map_some, wn, zau, jr, j6, ← hz, e0.r0, q1,  e1.r0, q2, e2.r0, q3, e3.r0, q4, wE, c1, wF, ok_0 c3, c3.r0, List.length_set, d1, g1, wG, rd3, wr5, rd4, f1]
        exact f2
    rw [kempty, if_neg Bool.false_ne_true] at e4 hR
    rw [show (keyT (y5 P i) == [101, 109, 112, 116, 121]) = false from kempty] at q4
    obtain ⟨K5, q5, e5, m5⟩ := zfe e4
    have m5' := m4'.trans m5
    have z0 := p1 K5 m5'
    have z1 := p2 K5 m5'
    have hz4 : z4 = [str [], .slice none 0 0, .pointer none, str []] := rfl
    have rd3 : Heap.read K5 ⟨h.length + 1, 0, some 0⟩ 4 = some [str [], .slice none 0 0, .pointer none, str []] := zjy z1 (by simp [z4])
    have wr5 : Heap.write K5 ⟨h.length, 0, some 0⟩ [str [], .slice none 0 0, .pointer none, str []] = some (K5.set h.length (.cells z4 0 false)) := zcx z0 (by simp [z4])
    have rd4 : Heap.read (K5.set h.length (.cells z4 0 false)) ⟨h.length, 0, some 0⟩ 4 = some [str [], .slice none 0 0, .pointer none, str []] := fi (List.getElem?_eq_some_iff.1 z0).1 (by simp [z4])
    have f := fun v => e.finS (e.upd e5 (Nat.le_refl _) (.cells z4 0 false)) ((m0.trans m5').upd (Nat.le_refl _) _) v (.inr (fh P i))
    simp only [xt, ya, zt, xf, zb, zw, yb, zn, zc, zp, zo, zf, ze, zd, List.set_cons_succ, List.set_cons_zero, O_mv, yg, ye, List.map_cons, List.map_nil, zx, zk, xr, y4, vd, w6, yd, z8, xe, xg, yx, Nat.lt_add_one, List.cons_append, List.nil_append, List.length_cons, List.length_nil, Nat.reduceAdd, Nat.reduceSub, Nat.zero_add, zm, yc, zy, za, xa, wg, slc, yq, xb, z7, zl, yu, z6, zq, zj, zg, zh, List.append_assoc, List.length_append, List.append_nil, Nat.add_zero, Option.map_some, List.getElem?_cons_zero, eq_self, yk, Option.map_some, wn, zau, jr, j6, ← hz, e0.r0, q1,  e1.r0, q2, e2.r0, q3, e3.r0, q4, q5, rd3, wr5, rd4, f]
    rw [hR]
    have hc : zas P i = 22 := by unfold zas; rw [if_pos hi]
    have ha : zbe P i = (y5 P i).at_ := by unfold zbe; rw [if_pos hi]
    rw [hc, ha] at e5
    exact ⟨_, rfl, by simp, by omega, ⟨i, e.upd e5 (Nat.le_refl _) _⟩, (m0.trans m5').upd (Nat.le_refl _) _⟩
  · rw [kl, if_pos rfl] at e1 hR
    rw [show (keyT (y5 P i) == [108, 101, 116]) = true from kl] at q1
    have hRk : R = if keyT (y5 P (i + 1)) == wRec then zoj P.en true (P.L.drop (i + 1 + 1)) else zoj P.en false (P.L.drop (i + 1)) := by
      rw [hR]
      by_cases hk : i + 1 < P.L.length
      · rw [gx hk]; rfl
      · rw [List.drop_eq_nil_of_le (by omega), j3 hk, ze3]; rfl
    have oK1 := p2 K1 m1'
    have hlK1 := (List.getElem?_eq_some_iff.1 oK1).1
    have eK1 : Rd P (K1.set (h.length + 1) (.cells [str wLet, .slice none 0 0, nilP, str []] 0 false)) (i + 1) 0 0 0 := e.upd e1 (by omega) _
    have mK1 : Mv P h (K1.set (h.length + 1) (.cells [str wLet, .slice none 0 0, nilP, str []] 0 false)) := (m0.trans m1').upd (by omega) _
    have zE1 : (K1.set (h.length + 1) (.cells [str wLet, .slice none 0 0, nilP, str []] 0 false))[h.length]? = some (.cells z4 0 false) := by rw [List.getElem?_set_ne (by omega)]; exact p1 K1 m1'
    obtain ⟨E1, hE1⟩ : ∃ E1, E1 = K1.set (h.length + 1) (.cells [str wLet, .slice none 0 0, nilP, str []] 0 false) := ⟨_, rfl⟩
    have oE1 : E1[h.length + 1]? = some (.cells [str wLet, .slice none 0 0, nilP, str []] 0 false) := by rw [hE1, List.getElem?_set_self hlK1]
    rw [← hE1] at eK1 mK1 zE1
    obtain ⟨K2, q2, e2, m2⟩ := zh2 (eK1.more [.cells [str wRec] 0 false]) (m := wRec) (by simp [wRec]) (zll E1 wRec)
    have m2' : Mv P E1 K2 := (Mv.add P E1 _).trans m2
    have zK2 := m2'.keep _ _ zE1 (by omega) (by omega)
    have oK2 : K2[h.length + 1]? = some (.cells [str wLet, .slice none 0 0, nilP, str []] 0 false) := m2'.keep _ _ oE1 (by omega) (by omega)
    have hlK2 := (List.getElem?_eq_some_iff.1 oK2).1
    simp only [wRec] at q2
    have w1 : Heap.write1 K1 ⟨h.length + 1, 0, some 0⟩ (str [108, 101, 116]) = some E1 := by rw [po oK1 (by simp [z4]), hE1]; rfl
    have w2 : Heap.write1 K2 ⟨h.length + 1, 0, some 0⟩ (str [114, 101, 99]) = some (K2.set (h.length + 1) (.cells [str wRec, .slice none 0 0, nilP, str []] 0 false)) := by rw [po oK2 (by simp)]; rfl
    cases kr : (keyT (y5 P (i + 1)) == wRec)
    all_goals rw [kr] at hRk e2; rw [show (keyT (y5 P (i + 1)) == [114, 101, 99]) = _ from kr] at q2
    all_goals first | rw [if_neg Bool.false_ne_true] at hRk e2 | rw [if_pos rfl] at hRk e2
    · have L0 := zqb (h := h) false K2 (i + 1) e2 (mK1.trans m2') zK2 oK2 hRk
      simp only [xt, ya, zt, yo, zb, zz, zw, yb, zn, zc, zp, zo, zf, ze, zd, List.set_cons_succ, List.set_cons_zero, O_mv, yg, ye, List.map_cons, List.map_nil, zx, zk, vd, w6, yd, z8, xe, xg, yx, Nat.lt_add_one, List.cons_append, List.nil_append, List.length_cons, List.length_nil, Nat.reduceSub, Nat.zero_add, zm, yc, zy, za, slc, yq, xb, z7, zl, xc, zq, zj, zg, zh, List.append_assoc, List.length_append, List.append_nil, Nat.add_zero, List.getElem?_cons_zero, yk, wm, wn, ← hz, e0.r0, q1, w1, eK1.r0, q2]
      refine zio (LetI P h R false i) ?_ (P.L.length - (i + 1) + 1) _ ⟨K2, i + 1, by omega, junk rfl, L0⟩
      rintro m st ⟨K, k, hik, ⟨j, rfl⟩, s, vs, S, acc, rfl, eK, hz0, hz1, own, gs, hS, hb, mK, hacc, hg⟩
      obtain ⟨w, p, J1, J2, J3, b, a', n', c', J4, k3, x, a, r1, r2, r3, r4, r5, r6, r7, r8, r9, r10, r11, r12, r13⟩ := zpq e eK hz0 hz1 own gs hS hb mK hacc hg
      have lK := mK.le
      have lz := (List.getElem?_eq_some_iff.1 hz1).1
      have lJ1 := (List.getElem?_eq_some_iff.1 r2).1
      have lJ3 := (List.getElem?_eq_some_iff.1 r5).1
      have wr1 : Heap.write1 J1 ⟨K.length, 0, some 0⟩ (str w) = some (J1.set K.length (.cells [str w, .int .i64 0, nilP] 0 false)) := by rw [po r2 (by simp)]; rfl
      have wr2 : Heap.write1 (J1.set K.length (.cells [str w, .int .i64 0, nilP] 0 false)) ⟨K.length, 1, some 0⟩ (.int .i64 p) = some (J1.set K.length (.cells [str w, .int .i64 p, nilP] 0 false)) := by rw [zhe lJ1 (by simp)]; rfl
      have wr3 : Heap.write1 J3 ⟨K.length, 2, some 0⟩ (pt b) = some (J3.set K.length (.cells [str w, .int .i64 p, pt b] 0 false)) := by rw [po r5 (by simp)]; rfl
      have rd1 : Heap.read1 (J3.set K.length (.cells [str w, .int .i64 p, pt b] 0 false)) ⟨h.length + 1, 1, some 0⟩ = some s := by rw [yb0 (by simp; omega), xz r6]; rfl
      have rd2 : Heap.read (J3.set K.length (.cells [str w, .int .i64 p, pt b] 0 false)) ⟨K.length, 0, some 0⟩ 3 = some [str w, .int .i64 p, pt b] := fi lJ3 (by simp)
      obtain ⟨E, hE⟩ : ∃ E, E = J4.set (h.length + 1) (.cells [str (kwOf false), .slice a' n' c', nilP, str []] 0 false) := ⟨_, rfl⟩
      have wr4 : Heap.write1 J4 ⟨h.length + 1, 1, some 0⟩ (.slice a' n' c') = some E := by rw [po r8 (by simp), hE]; rfl
      rw [← hE] at r9 r10 r11 r12 r13
      have row4 : ([str (kwOf false), .slice a' n' c', nilP, str []] : List Value).length = 4 := by simp
      rcases r13 with ⟨hx, hRb⟩ | ⟨rfl, rfl, hk3, S', g, g1, g2, g3, g4, g5⟩
      · have rd3 : Heap.read E ⟨h.length + 1, 0, some 0⟩ 4 = some [str (kwOf false), .slice a' n' c', nilP, str []] := zjy r12 (by simp)
        have wr5 : Heap.write E ⟨h.length, 0, some 0⟩ [str (kwOf false), .slice a' n' c', nilP, str []] = some (E.set h.length (.cells [str (kwOf false), .slice a' n' c', nilP, str []] 0 false)) := zcx r11 (by simp [z4])
        have rd4 : Heap.read (E.set h.length (.cells [str (kwOf false), .slice a' n' c', nilP, str []] 0 false)) ⟨h.length, 0, some 0⟩ 4 = some [str (kwOf false), .slice a' n' c', nilP, str []] := fi (List.getElem?_eq_some_iff.1 r11).1 (by simp)
        simp only [ya, zt, xf, zb, zz, yb, zn, yi, zc, zp, wv, zo, zf, ze, zd, List.set_cons_succ, List.set_cons_zero, O_mv, y3, xj, yg, O_un, ye, List.map_cons, List.map_nil, zx, zk, xr, y4, vd, w6, yd, z8, xe, xg, v8, List.length_cons, List.length_nil, Nat.reduceAdd, Nat.zero_add, Bool.not_false, zm, yc, zy, za, xa, wg, zch, slc, gp, yq, xb, z7, xh, y8, zl, xc, xx, ft, qr, yu, z6, List.append_nil, Nat.add_zero, Option.map_some, List.getElem?_cons_zero, List.getElem?_cons_succ, eq_self, wm, Option.map_some, zau, jr, j6, r1, wr1, wr2, r3, r4, wr3, rd1, rd2, zi7, List.length_set, r7, wr4, fd r9 hx, rd3, wr5, rd4]
        have st := zxp e r9 r10 r12 hx hRb
        rw [e.finS (e.upd r9 (Nat.le_refl _) _) (r10.upd (Nat.le_refl _) _) _ (.inr hx)]
        exact st
      · obtain ⟨J5, q5, e5, m5⟩ := zh2 (r9.more [.cells [str wAnd] 0 false]) (m := wAnd) (by simp [wAnd]) (zll E wAnd)
        have m5' : Mv P E J5 := (Mv.add P E _).trans m5
        simp only [wAnd] at q5
        cases kw : (keyT (y5 P k3) == wAnd)
        · rw [kw, if_neg Bool.false_ne_true] at e5 g5
          rw [show (keyT (y5 P k3) == [97, 110, 100]) = false from kw] at q5
          have t11 := m5'.keep _ _ r11 (by omega) (by omega)
          have t12 := m5'.keep _ _ r12 (by omega) (by omega)
          have rd3 : Heap.read J5 ⟨h.length + 1, 0, some 0⟩ 4 = some [str (kwOf false), .slice a' n' c', nilP, str []] := zjy t12 (by simp)
          have wr5 : Heap.write J5 ⟨h.length, 0, some 0⟩ [str (kwOf false), .slice a' n' c', nilP, str []] = some (J5.set h.length (.cells [str (kwOf false), .slice a' n' c', nilP, str []] 0 false)) := zcx t11 (by simp [z4])
          have rd4 : Heap.read (J5.set h.length (.cells [str (kwOf false), .slice a' n' c', nilP, str []] 0 false)) ⟨h.length, 0, some 0⟩ 4 = some [str (kwOf false), .slice a' n' c', nilP, str []] := fi (List.getElem?_eq_some_iff.1 t11).1 (by simp)
          simp only [ya, zt, xf, zb, zz, yb, zn, yi, zc, zp, y0, zo, zf, ze, zd, List.set_cons_succ, List.set_cons_zero, O_mv, y3, xj, yg, O_un, ye, List.map_cons, List.map_nil, zx, zk, xr, y4, vd, w6, yd, z8, xe, xg, yx, Nat.lt_add_one, v8, List.length_cons, List.length_nil, Nat.reduceAdd, Nat.zero_add, Bool.not_true, Bool.not_false, zm, yc, zy, za, xa, wg, zch, slc, gp, yq, xb, z7, xh, y8, zl, xc, xx, ft, qr, yu, z6, zq, zj, List.append_nil, Nat.add_zero, Option.map_some, List.getElem?_cons_zero, List.getElem?_cons_succ, eq_self, wm, Option.map_some, wn, zau, jr, j6, r1, wr1, wr2, r3, r4, wr3, rd1, rd2, zi7, List.length_set, r7, wr4, ok_0 r9, r9.r0, q5, rd3, wr5, rd4]
          rw [e.finS (e.upd e5 (Nat.le_refl _) _) ((r10.trans m5').upd (Nat.le_refl _) _) _ (.inl (by omega)), g5]
          have l5 := m5'.le
          refine ⟨_, k3, rfl, rfl, e.upd e5 (Nat.le_refl _) _, ⟨.slice a' n' c', vs ++ [pt b], S', rfl, ?_, ?_, ?_, ?_⟩, (r10.trans m5').upd (Nat.le_refl _) _⟩
          · exact (g1.sl.keep fun c hc o ho => by
              have := g4 c hc
              rw [List.getElem?_set_ne (by omega)]
              exact m5'.keep c o ho (by omega) (by omega))
          · exact g2.keep fun c o hc ho => by
              have := (g3 c hc).1
              rw [List.getElem?_set_ne (by omega)]
              exact m5'.keep c o ho (by omega) (by omega)
          · intro z hz
            obtain ⟨z1, z2, z3⟩ := g3 z hz
            exact ⟨⟨by omega, by rw [List.length_set]; omega⟩, z3⟩
          · intro b hb'
            have := g4 b hb'
            have := (g1.lt hb').2
            exact ⟨by omega, by rw [List.length_set]; omega⟩
        · rw [kw, if_pos rfl] at e5 g5
          rw [show (keyT (y5 P k3) == [97, 110, 100]) = true from kw] at q5
          simp only [ya, zt, yo, zb, zw, yb, zn, yi, zc, zp, y0, zo, zf, ze, zd, List.set_cons_succ, List.set_cons_zero, O_mv, y3, xj, yg, O_un, ye, List.map_cons, List.map_nil, zx, zk, xr, y4, vd, w6, yd, z8, xe, xg, yx, Nat.lt_add_one, v8, List.length_cons, List.length_nil, Nat.reduceAdd, Nat.zero_add, Bool.not_true, zm, yc, zy, za, zi, vt, slc, gp, yq, xb, z7, xh, y8, zl, xc, xx, ft, qr, zq, zj, List.append_nil, Nat.add_zero, Option.map_some, List.getElem?_cons_zero, List.getElem?_cons_succ, wm, Option.map_some, wn, r1, wr1, wr2, r3, r4, wr3, rd1, rd2, zi7, List.length_set, r7, wr4, ok_0 r9, r9.r0, q5]
          have hk3l := zmq (by simp [wAnd]) kw
          have l5 := m5'.le
          refine ⟨P.L.length - (k3 + 1) + 1, by omega, J5, k3 + 1, by omega, junk rfl, .slice a' n' c', _, S', acc ++ [g], rfl, e5, m5'.keep _ _ r11 (by omega) (by omega), m5'.keep _ _ r12 (by omega) (by omega), g1.keep fun c hc o ho => m5'.keep c o ho (by have := g4 c hc; omega) (by have := g4 c hc; omega), g2.keep fun c o hc ho => m5'.keep c o ho (by have := (g3 c hc).1; omega) (by have := (g3 c hc).1; omega), ?_, g4, r10.trans m5', by simp; omega, g5⟩
          intro z hz
          obtain ⟨z1, z2, z3⟩ := g3 z hz
          exact ⟨z1, by omega, z3⟩
    · have L0 := zqb (h := h) true (K2.set (h.length + 1) (.cells [str wRec, .slice none 0 0, nilP, str []] 0 false)) (i + 1 + 1) (e.upd e2 (by omega) _) ((mK1.trans m2').upd (by omega) _) (by rw [List.getElem?_set_ne (by omega)]; exact zK2) (by rw [List.getElem?_set_self hlK2]; rfl) hRk
      simp only [xt, ya, zt, zb, zz, yb, zn, zc, zp, zo, zf, ze, zd, List.set_cons_succ, List.set_cons_zero, O_mv, yg, ye, List.map_cons, List.map_nil, zx, zk, vd, w6, yd, z8, xe, xg, yx, Nat.lt_add_one, List.cons_append, List.nil_append, List.length_cons, List.length_nil, Nat.reduceSub, Nat.zero_add, zm, yc, zy, za, slc, yq, xb, z7, zl, xc, zq, zj, zg, zh, List.append_assoc, List.length_append, List.append_nil, Nat.add_zero, List.getElem?_cons_zero, yk, wm, wn, ← hz, e0.r0, q1, w1, eK1.r0, q2, w2]
      refine zio (LetI P h R true i) ?_ (P.L.length - (i + 1 + 1) + 1) _ ⟨_, i + 1 + 1, by omega, junk rfl, L0⟩
      rintro m st ⟨K, k, hik, ⟨j, rfl⟩, s, vs, S, acc, rfl, eK, hz0, hz1, own, gs, hS, hb, mK, hacc, hg⟩
      obtain ⟨w, p, J1, J2, J3, b, a', n', c', J4, k3, x, a, r1, r2, r3, r4, r5, r6, r7, r8, r9, r10, r11, r12, r13⟩ := zpq e eK hz0 hz1 own gs hS hb mK hacc hg
      have lK := mK.le
      have lz := (List.getElem?_eq_some_iff.1 hz1).1
      have lJ1 := (List.getElem?_eq_some_iff.1 r2).1
      have lJ3 := (List.getElem?_eq_some_iff.1 r5).1
      have wr1 : Heap.write1 J1 ⟨K.length, 0, some 0⟩ (str w) = some (J1.set K.length (.cells [str w, .int .i64 0, nilP] 0 false)) := by rw [po r2 (by simp)]; rfl
      have wr2 : Heap.write1 (J1.set K.length (.cells [str w, .int .i64 0, nilP] 0 false)) ⟨K.length, 1, some 0⟩ (.int .i64 p) = some (J1.set K.length (.cells [str w, .int .i64 p, nilP] 0 false)) := by rw [zhe lJ1 (by simp)]; rfl
      have wr3 : Heap.write1 J3 ⟨K.length, 2, some 0⟩ (pt b) = some (J3.set K.length (.cells [str w, .int .i64 p, pt b] 0 false)) := by rw [po r5 (by simp)]; rfl
      have rd1 : Heap.read1 (J3.set K.length (.cells [str w, .int .i64 p, pt b] 0 false)) ⟨h.length + 1, 1, some 0⟩ = some s := by rw [yb0 (by simp; omega), xz r6]; rfl
      have rd2 : Heap.read (J3.set K.length (.cells [str w, .int .i64 p, pt b] 0 false)) ⟨K.length, 0, some 0⟩ 3 = some [str w, .int .i64 p, pt b] := fi lJ3 (by simp)
      obtain ⟨E, hE⟩ : ∃ E, E = J4.set (h.length + 1) (.cells [str (kwOf true), .slice a' n' c', nilP, str []] 0 false) := ⟨_, rfl⟩
      have wr4 : Heap.write1 J4 ⟨h.length + 1, 1, some 0⟩ (.slice a' n' c') = some E := by rw [po r8 (by simp), hE]; rfl
      rw [← hE] at r9 r10 r11 r12 r13
      have row4 : ([str (kwOf true), .slice a' n' c', nilP, str []] : List Value).length = 4 := by simp
      rcases r13 with ⟨hx, hRb⟩ | ⟨rfl, rfl, hk3, S', g, g1, g2, g3, g4, g5⟩
      · have rd3 : Heap.read E ⟨h.length + 1, 0, some 0⟩ 4 = some [str (kwOf true), .slice a' n' c', nilP, str []] := zjy r12 (by simp)
        have wr5 : Heap.write E ⟨h.length, 0, some 0⟩ [str (kwOf true), .slice a' n' c', nilP, str []] = some (E.set h.length (.cells [str (kwOf true), .slice a' n' c', nilP, str []] 0 false)) := zcx r11 (by simp [z4])
        have rd4 : Heap.read (E.set h.length (.cells [str (kwOf true), .slice a' n' c', nilP, str []] 0 false)) ⟨h.length, 0, some 0⟩ 4 = some [str (kwOf true), .slice a' n' c', nilP, str []] := fi (List.getElem?_eq_some_iff.1 r11).1 (by simp)
        simp only [ya, zt, xf, zb, zz, yb, zn, yi, zc, zp, wv, zo, zf, ze, zd, List.set_cons_succ, List.set_cons_zero, O_mv, y3, xj, yg, O_un, ye, List.map_cons, List.map_nil, zx, zk, xr, y4, vd, w6, yd, z8, xe, xg, v8, List.length_cons, List.length_nil, Nat.reduceAdd, Nat.zero_add, Bool.not_false, zm, yc, zy, za, xa, wg, zch, slc, gp, yq, xb, z7, xh, y8, zl, xc, xx, ft, qr, yu, z6, List.append_nil, Nat.add_zero, Option.map_some, List.getElem?_cons_zero, List.getElem?_cons_succ, eq_self, wm, Option.map_some, zau, jr, j6, r1, wr1, wr2, r3, r4, wr3, rd1, rd2, zi7, List.length_set, r7, wr4, fd r9 hx, rd3, wr5, rd4]
        have st := zxp e r9 r10 r12 hx hRb
        rw [e.finS (e.upd r9 (Nat.le_refl _) _) (r10.upd (Nat.le_refl _) _) _ (.inr hx)]
        exact st
      · obtain ⟨J5, q5, e5, m5⟩ := zh2 (r9.more [.cells [str wAnd] 0 false]) (m := wAnd) (by simp [wAnd]) (zll E wAnd)
        have m5' : Mv P E J5 := (Mv.add P E _).trans m5
        simp only [wAnd] at q5
        cases kw : (keyT (y5 P k3) == wAnd)
        · rw [kw, if_neg Bool.false_ne_true] at e5 g5
          rw [show (keyT (y5 P k3) == [97, 110, 100]) = false from kw] at q5
          have t11 := m5'.keep _ _ r11 (by omega) (by omega)
          have t12 := m5'.keep _ _ r12 (by omega) (by omega)
          have rd3 : Heap.read J5 ⟨h.length + 1, 0, some 0⟩ 4 = some [str (kwOf true), .slice a' n' c', nilP, str []] := zjy t12 (by simp)
          have wr5 : Heap.write J5 ⟨h.length, 0, some 0⟩ [str (kwOf true), .slice a' n' c', nilP, str []] = some (J5.set h.length (.cells [str (kwOf true), .slice a' n' c', nilP, str []] 0 false)) := zcx t11 (by simp [z4])
          have rd4 : Heap.read (J5.set h.length (.cells [str (kwOf true), .slice a' n' c', nilP, str []] 0 false)) ⟨h.length, 0, some 0⟩ 4 = some [str (kwOf true), .slice a' n' c', nilP, str []] := fi (List.getElem?_eq_some_iff.1 t11).1 (by simp)
          simp only [ya, zt, xf, zb, zz, yb, zn, yi, zc, zp, y0, zo, zf, ze, zd, List.set_cons_succ, List.set_cons_zero, O_mv, y3, xj, yg, O_un, ye, List.map_cons, List.map_nil, zx, zk, xr, y4, vd, w6, yd, z8, xe, xg, yx, Nat.lt_add_one, v8, List.length_cons, List.length_nil, Nat.reduceAdd, Nat.zero_add, Bool.not_true, Bool.not_false, zm, yc, zy, za, xa, wg, zch, slc, gp, yq, xb, z7, xh, y8, zl, xc, xx, ft, qr, yu, z6, zq, zj, List.append_nil, Nat.add_zero, Option.map_some, List.getElem?_cons_zero, List.getElem?_cons_succ, eq_self, wm, Option.map_some, wn, zau, jr, j6, r1, wr1, wr2, r3, r4, wr3, rd1, rd2, zi7, List.length_set, r7, wr4, ok_0 r9, r9.r0, q5, rd3, wr5, rd4]
          rw [e.finS (e.upd e5 (Nat.le_refl _) _) ((r10.trans m5').upd (Nat.le_refl _) _) _ (.inl (by omega)), g5]
          have l5 := m5'.le
          refine ⟨_, k3, rfl, rfl, e.upd e5 (Nat.le_refl _) _, ⟨.slice a' n' c', vs ++ [pt b], S', rfl, ?_, ?_, ?_, ?_⟩, (r10.trans m5').upd (Nat.le_refl _) _⟩
          · exact (g1.sl.keep fun c hc o ho => by
              have := g4 c hc
              rw [List.getElem?_set_ne (by omega)]
              exact m5'.keep c o ho (by omega) (by omega))
          · exact g2.keep fun c o hc ho => by
              have := (g3 c hc).1
              rw [List.getElem?_set_ne (by omega)]
              exact m5'.keep c o ho (by omega) (by omega)
          · intro z hz
            obtain ⟨z1, z2, z3⟩ := g3 z hz
            exact ⟨⟨by omega, by rw [List.length_set]; omega⟩, z3⟩
          · intro b hb'
            have := g4 b hb'
            have := (g1.lt hb').2
            exact ⟨by omega, by rw [List.length_set]; omega⟩
        · rw [kw, if_pos rfl] at e5 g5
          rw [show (keyT (y5 P k3) == [97, 110, 100]) = true from kw] at q5
          simp only [ya, zt, yo, zb, zw, yb, zn, yi, zc, zp, y0, zo, zf, ze, zd, List.set_cons_succ, List.set_cons_zero, O_mv, y3, xj, yg, O_un, ye, List.map_cons, List.map_nil, zx, zk, xr, y4, vd, w6, yd, z8, xe, xg, yx, Nat.lt_add_one, v8, List.length_cons, List.length_nil, Nat.reduceAdd, Nat.zero_add, Bool.not_true, zm, yc, zy, za, zi, vt, slc, gp, yq, xb, z7, xh, y8, zl, xc, xx, ft, qr, zq, zj, List.append_nil, Nat.add_zero, Option.map_some, List.getElem?_cons_zero, List.getElem?_cons_succ, wm, Option.map_some, wn, r1, wr1, wr2, r3, r4, wr3, rd1, rd2, zi7, List.length_set, r7, wr4, ok_0 r9, r9.r0, q5]
          have hk3l := zmq (by simp [wAnd]) kw
          have l5 := m5'.le
          refine ⟨P.L.length - (k3 + 1) + 1, by omega, J5, k3 + 1, by omega, junk rfl, .slice a' n' c', _, S', acc ++ [g], rfl, e5, m5'.keep _ _ r11 (by omega) (by omega), m5'.keep _ _ r12 (by omega) (by omega), g1.keep fun c hc o ho => m5'.keep c o ho (by have := g4 c hc; omega) (by have := g4 c hc; omega), g2.keep fun c o hc ho => m5'.keep c o ho (by have := (g3 c hc).1; omega) (by have := (g3 c hc).1; omega), ?_, g4, r10.trans m5', by simp; omega, g5⟩
          intro z hz
          obtain ⟨z1, z2, z3⟩ := g3 z hz
          exact ⟨z1, by omega, z3⟩
end Go.Proofs.YtljdbheclfaloaaGreatDoor.AM
namespace Go.Proofs.YtljdbheclfaloaaGreatDoor.AM
open Go.RowKit
set_option linter.unusedSimpArgs false
set_option linter.unusedVariables false

section
variable {call : qo} (ρ : Operand → Value) (h : Heap)
def zon (h : Heap) (kk : EqK) (z : Value) (ok : Bool) (m k : Value) : Option (Value × Heap) :=
  match (if zdq kk k then zjx h kk k m else none) with
  | some (some v) => some (if ok then tup [v, .bool true] else v, h)
  | some none => some (if ok then tup [z, .bool false] else z, h)
  | none => none
theorem k8 (kk : EqK) (z : Value) (m k : Operand) (ok : Bool) : evOp call ρ h (.lookup kk z m k ok) = zon h kk z ok (ρ m) (ρ k) := rfl
def updO (h : Heap) (kk : EqK) : Value → Value → Value → Option (Value × Heap)
  | .map (some b), k, v => match h[b]? with
    | some (.map es) => if zdq kk k then (zaa kk k v es).map fun es' => (undef, h.set b (.map es')) else none
    | _ => none
  | _, _, _ => none
theorem bh (kk : EqK) (m k v : Operand) : evOp call ρ h (.update kk m k v) = updO h kk (ρ m) (ρ k) (ρ v) := by
  simp only [evOp]; generalize ρ m = x
  cases x <;> try rfl
  rename_i b
  cases b <;> rfl
theorem zen : evOp call ρ h .mkMap = some (.map (some h.length), h ++ [.map []]) := rfl
theorem yb8 (z : Value) (ok : Bool) (w : Bys) : zon h .str z ok (.map none) (str w) = some (if ok then tup [z, .bool false] else z, h) := rfl
def zg0 (z : Value) (ok : Bool) : Option Value → Value
  | some v => if ok then tup [v, .bool true] else v
  | none => if ok then tup [z, .bool false] else z
theorem zf5 {b : Nat} {es : List (Value × Value)} (e : h[b]? = some (.map es)) (z : Value) (ok : Bool) {w : Bys} {r : Option Value} (hf : findKey .str (str w) es = some r) : zon h .str z ok (.map (some b)) (str w) = some (zg0 z ok r, h) := by
  have hk : zdq .str (str w) = true := rfl
  simp only [zon, hk, if_true, zjx, e, hf]
  cases r <;> rfl
theorem zmw {b : Nat} {es es' : List (Value × Value)} (e : h[b]? = some (.map es)) {w : Bys} {v : Value} (hs : zaa .str (str w) v es = some es') : updO h .str (.map (some b)) (str w) v = some (undef, h.set b (.map es')) := by
  have hk : zdq .str (str w) = true := rfl
  simp only [updO, e, hk, if_true, hs, Option.map_some]
end
theorem zn8 {α : Type} (f : α → Value) (w : Bys) : ∀ l : List (Bys × α), findKey .str (str w) (l.map fun p => (str p.1, f p.2)) = some ((l.find? fun p => w == p.1).map fun p => f p.2)
  | [] => rfl
  | (k, a) :: l => by
    rw [List.map_cons, findKey, zmn, List.find?_cons]
    simp only
    cases (w == k)
    · exact zn8 f w l
    · rfl
theorem zsz {α : Type} (f : α → Value) (w : Bys) (a : α) : ∀ l : List (Bys × α), (l.find? fun p => w == p.1) = none → zaa .str (str w) (f a) (l.map fun p => (str p.1, f p.2)) = some ((l ++ [(w, a)]).map fun p => (str p.1, f p.2))
  | [], h => rfl
  | (k, b) :: l, h => by
    rw [List.find?_cons] at h
    rw [List.map_cons, zaa, zmn]
    cases hk : (w == k)
    · rw [hk] at h
      simp only at h ⊢
      rw [zsz f w a l h]; rfl
    · rw [hk] at h; cases h
theorem zgc (kn : Kn) (w : Bys) : jk kn w = (kn.find? fun p => w == p.1).map (·.2) := by
  induction kn with
  | nil => rfl
  | cons p r ih =>
    obtain ⟨v, s⟩ := p
    rw [jk, List.find?_cons]
    simp only
    cases hk : (w == v)
    · simp only [Bool.false_eq_true, if_false]; exact ih
    · simp
theorem ycd : (([110, 97, 109, 101] : Bys) == [92]) = false := rfl
theorem ycq : (([124] : Bys) == [110, 97, 109, 101]) = false := rfl
theorem zwa : (([124] : Bys) == [92]) = false := rfl
theorem yga : (([124] : Bys) == [40]) = false := rfl
theorem yca : (([38] : Bys) == [110, 97, 109, 101]) = false := rfl
theorem ycw : (([38] : Bys) == [124]) = false := rfl
theorem zxi : (([38] : Bys) == [92]) = false := rfl
theorem yex : (([38] : Bys) == [40]) = false := rfl
theorem ycn : (([92] : Bys) == [110, 97, 109, 101]) = false := rfl
theorem ycm : (([92] : Bys) == [124]) = false := rfl
theorem yc3 : (([92] : Bys) == [38]) = false := rfl
theorem yfb : (([92] : Bys) == [40]) = false := rfl
theorem yce : (([59] : Bys) == [110, 97, 109, 101]) = false := rfl
theorem yco : (([59] : Bys) == [124]) = false := rfl
theorem yc4 : (([59] : Bys) == [38]) = false := rfl
theorem ztv : (([59] : Bys) == [92]) = false := rfl
theorem yey : (([59] : Bys) == [40]) = false := rfl
theorem ycc : (([120] : Bys) == [110, 97, 109, 101]) = false := rfl
theorem ycp : (([120] : Bys) == [124]) = false := rfl
theorem ycj : (([120] : Bys) == [38]) = false := rfl
theorem ztz : (([120] : Bys) == [92]) = false := rfl
theorem yck : (([120] : Bys) == [59]) = false := rfl
theorem yf5 : (([120] : Bys) == [40]) = false := rfl
theorem zqp : (([91] : Bys) == [110, 97, 109, 101]) = false := rfl
theorem zqx : (([91] : Bys) == [124]) = false := rfl
theorem zpt : (([91] : Bys) == [38]) = false := rfl
theorem zmf : (([91] : Bys) == [92]) = false := rfl
theorem zpo : (([91] : Bys) == [59]) = false := rfl
theorem zo9 : (([91] : Bys) == [120]) = false := rfl
theorem ygd : (([91] : Bys) == [40]) = false := rfl
theorem zxa : (([40] : Bys) == [110, 97, 109, 101]) = false := rfl
theorem ych : (([40] : Bys) == [124]) = false := rfl
theorem yc9 : (([40] : Bys) == [38]) = false := rfl
theorem zyc : (([40] : Bys) == [92]) = false := rfl
theorem ycr : (([40] : Bys) == [59]) = false := rfl
theorem ycl : (([40] : Bys) == [120]) = false := rfl
theorem yc8 : (([40] : Bys) == [91]) = false := rfl
theorem zxl : (([43] : Bys) == [110, 97, 109, 101]) = false := rfl
theorem zzw : (([43] : Bys) == [124]) = false := rfl
theorem zwz : (([43] : Bys) == [38]) = false := rfl
theorem ztj : (([43] : Bys) == [92]) = false := rfl
theorem zwe : (([43] : Bys) == [59]) = false := rfl
theorem zxz : (([43] : Bys) == [120]) = false := rfl
theorem zy5 : (([43] : Bys) == [91]) = false := rfl
theorem zw8 : (([43] : Bys) == [40]) = false := rfl
theorem zzg : (([42] : Bys) == [110, 97, 109, 101]) = false := rfl
theorem zwl : (([42] : Bys) == [124]) = false := rfl
theorem zyh : (([42] : Bys) == [38]) = false := rfl
theorem zs8 : (([42] : Bys) == [92]) = false := rfl
theorem zyt : (([42] : Bys) == [59]) = false := rfl
theorem zxe : (([42] : Bys) == [120]) = false := rfl
theorem zyr : (([42] : Bys) == [91]) = false := rfl
theorem zw4 : (([42] : Bys) == [40]) = false := rfl
theorem zxk : (([42] : Bys) == [43]) = false := rfl
theorem zq0 : (([63] : Bys) == [110, 97, 109, 101]) = false := rfl
theorem zrx : (([63] : Bys) == [124]) = false := rfl
theorem zso : (([63] : Bys) == [38]) = false := rfl
theorem zoi : (([63] : Bys) == [92]) = false := rfl
theorem zs0 : (([63] : Bys) == [59]) = false := rfl
theorem zrl : (([63] : Bys) == [120]) = false := rfl
theorem zs2 : (([63] : Bys) == [91]) = false := rfl
theorem zsy : (([63] : Bys) == [40]) = false := rfl
theorem zr0 : (([63] : Bys) == [43]) = false := rfl
theorem zs1 : (([63] : Bys) == [42]) = false := rfl
theorem zs5 : (([94] : Bys) == [110, 97, 109, 101]) = false := rfl
theorem zr5 : (([94] : Bys) == [124]) = false := rfl
theorem zq9 : (([94] : Bys) == [38]) = false := rfl
theorem znx : (([94] : Bys) == [92]) = false := rfl
theorem zrj : (([94] : Bys) == [59]) = false := rfl
theorem zsv : (([94] : Bys) == [120]) = false := rfl
theorem zrg : (([94] : Bys) == [91]) = false := rfl
theorem zrd : (([94] : Bys) == [40]) = false := rfl
theorem zst : (([94] : Bys) == [43]) = false := rfl
theorem zsg : (([94] : Bys) == [42]) = false := rfl
theorem zoa : (([94] : Bys) == [63]) = false := rfl
theorem zre : (([48] : Bys) == [110, 97, 109, 101]) = false := rfl
theorem zrm : (([48] : Bys) == [124]) = false := rfl
theorem zs6 : (([48] : Bys) == [38]) = false := rfl
theorem zr1 : (([48] : Bys) == [92]) = false := rfl
theorem zrk : (([48] : Bys) == [59]) = false := rfl
theorem zqz : (([48] : Bys) == [120]) = false := rfl
theorem zr4 : (([48] : Bys) == [91]) = false := rfl
theorem zsr : (([48] : Bys) == [40]) = false := rfl
theorem zsi : (([48] : Bys) == [43]) = false := rfl
theorem zsx : (([48] : Bys) == [42]) = false := rfl
theorem znn : (([48] : Bys) == [63]) = false := rfl
theorem zoo : (([48] : Bys) == [94]) = false := rfl
end Go.Proofs.YtljdbheclfaloaaGreatDoor.AM
namespace Go.Proofs.YtljdbheclfaloaaGreatDoor.AM
open Go.RowKit
set_option linter.unusedSimpArgs false
set_option linter.unusedVariables false

def knE (kn : Kn) : List (Value × Value) := kn.map fun p => (str p.1, .bool p.2)
def rcE (rc : List Bys) : List (Value × Value) := (rc.map fun w => (w, ())).map fun p => (str p.1, .bool true)
theorem zsj (kn : Kn) (w : Bys) : findKey .str (str w) (knE kn) = some ((jk kn w).map Value.bool) := by
  rw [knE, zn8 (fun b => Value.bool b), zgc, Option.map_map]; rfl
theorem zot (w : Bys) : ∀ rc : List Bys, ((rc.map fun w => (w, ())).find? fun p => w == p.1) = if rc.contains w then some (w, ()) else none
  | [] => rfl
  | v :: r => by
    rw [List.map_cons, List.find?_cons, List.contains_cons]
    cases hv : (w == v)
    · simp only [Bool.false_or]; exact zot w r
    · rw [← eq_of_beq hv]; simp
theorem zv9 (rc : List Bys) (w : Bys) : findKey .str (str w) (rcE rc) = some (if rc.contains w then some (.bool true) else none) := by
  rw [rcE, zn8 (fun _ => Value.bool true), zot]
  cases rc.contains w <;> rfl
structure Ch (P : RP) (h : Heap) (q km : Nat) (rm : Value) (n : Nat) (kn : Kn) (rc : List Bys) : Prop where
  cq : h[q]? = some (.cells [pt P.r, .map (some km), rm, .int .i64 (n : Int)] 0 false)
  ck : h[km]? = some (.map (knE kn))
  cr : (rm = .map none ∧ rc = []) ∨ ∃ b, rm = .map (some b) ∧ h[b]? = some (.map (rcE rc))
structure Kp (P : RP) (S : Nat → Prop) (h h' : Heap) : Prop where
  keep : ∀ (b : Nat) (o : AObj), h[b]? = some o → ¬ S b → b ≠ P.r → h'[b]? = some o
  le : h.length ≤ h'.length
theorem Kp.refl (P : RP) (S : Nat → Prop) (h : Heap) : Kp P S h h := ⟨fun _ _ e _ _ => e, Nat.le_refl _⟩
theorem Kp.trans {P : RP} {S S' : Nat → Prop} {h h' h'' : Heap} (a : Kp P S h h') (b : Kp P S' h' h'') : Kp P (fun z => S z ∨ S' z) h h'' :=
  ⟨fun x o e n1 n2 => b.keep x o (a.keep x o e (fun hh => n1 (.inl hh)) n2) (fun hh => n1 (.inr hh)) n2, Nat.le_trans a.le b.le⟩
theorem Kp.weak {P : RP} {S S' : Nat → Prop} {h h' : Heap} (a : Kp P S h h') (hs : ∀ z, S z → S' z) : Kp P S' h h' := ⟨fun b o e n1 n2 => a.keep b o e (fun hh => n1 (hs b hh)) n2, a.le⟩
theorem Kp.add (P : RP) (S : Nat → Prop) (h L : Heap) : Kp P S h (h ++ L) := ⟨fun b o e _ _ => y7 L e, by simp⟩
theorem Mv.kp {P : RP} {h h' : Heap} (m : Mv P h h') (hc : ∀ o, h[P.c]? = some o → h'[P.c]? = some o) : Kp P (fun _ => False) h h' := ⟨fun b o e _ n2 => by
  by_cases hb : b = P.c
  · subst hb; exact hc o e
  · exact m.keep b o e n2 hb, m.le⟩
structure Cl (P : RP) (hb : Heap) (q km : Nat) (rm : Value) (S : Nat → Prop) : Prop where
  lo : ∀ z, S z → hb.length ≤ z
  q : ¬ S q
  k : ¬ S km
  r : ∀ b, rm = .map (some b) → ¬ S b
theorem Cl.weak {P : RP} {hb : Heap} {q km : Nat} {rm : Value} {S S' : Nat → Prop} (c : Cl P hb q km rm S) (hs : ∀ z, S' z → S z) : Cl P hb q km rm S' :=
  ⟨fun z hz => c.lo z (hs z hz), fun h => c.q (hs _ h), fun h => c.k (hs _ h), fun b hb h => c.r b hb (hs _ h)⟩
theorem Ch.kp {P : RP} {h h' : Heap} {q km n i d x a : Nat} {rm : Value} {kn : Kn} {rc : List Bys} {S : Nat → Prop} (c : Ch P h q km rm n kn rc) (e : Rd P h i d x a) (k : Kp P S h h') (hq : ¬ S q) (hk : ¬ S km) (hr : ∀ b, rm = .map (some b) → ¬ S b) : Ch P h' q km rm n kn rc := by
  have n1 : q ≠ P.r := by
    rintro rfl
    have := e.hr.symm.trans c.cq
    simp at this
  have n2 : km ≠ P.r := by
    rintro rfl
    have := e.hr.symm.trans c.ck
    simp at this
  refine ⟨k.keep _ _ c.cq hq n1, k.keep _ _ c.ck hk n2, ?_⟩
  rcases c.cr with h1 | ⟨b, h1, h2⟩
  · exact .inl h1
  · refine .inr ⟨b, h1, k.keep _ _ h2 (hr b h1) ?_⟩
    rintro rfl
    have := e.hr.symm.trans h2
    simp at this
section
variable {P : RP} {h : Heap} {i d x a q bb : Nat} {km rm nn : Value}
theorem py : q8 .ptr (.pointer none) (.pointer none) = some true := rfl
theorem xo (p : Addr) : q8 .ptr (.pointer (some p)) (.pointer none) = some false := rfl
set_option maxRecDepth 10000 in
theorem zfr (e : Rd P h i d x a) (rt : Bool) : DF FF xn [pt q, nilP, .bool rt] h = some (tup [], h) := by
  have : ∃ v h', DF FF xn [pt q, nilP, .bool rt] h = some (v, h') ∧ (v = tup [] ∧ h' = h) := by
    refine wz qi ?_
    simp only [yw, ya, zt, xf, zb, zz, yb, zn, yi, zc, wv, zo, zf, ze, zd, List.set_cons_succ, List.set_cons_zero, O_mv, y3, xj, List.cons_append, List.nil_append, List.length_cons, List.length_nil, Nat.reduceAdd, Nat.reduceSub, Nat.zero_add, zm, yc, za, xa, w8, zg, zh, Bool.bne_false, jp, eq_self, zs, yk, laid, py, xq, zs, zep, yev]
    exact ⟨trivial, trivial⟩
  obtain ⟨v, h', r, rfl, rfl⟩ := this
  exact r
set_option maxRecDepth 10000 in
theorem zt6 (e : Rd P h i d x a) (hx : x ≠ 0) (hq : h[q]? = some (.cells [pt P.r, km, rm, nn] 0 false)) (b : Nat) (rt : Bool) : DF FF xn [pt q, pt b, .bool rt] h = some (tup [], h) := by
  have : ∃ v h', DF FF xn [pt q, pt b, .bool rt] h = some (v, h') ∧ (v = tup [] ∧ h' = h) := by
    refine wz qi ?_
    have rq : ∀ L j, Heap.read1 (h ++ L) ⟨q, j, some 0⟩ = ([pt P.r, km, rm, nn] : List Value)[j]? := fun L j => xz (y7 L hq)
    simp only [yw, ya, zt, xf, zb, zz, yb, zn, yi, zc, y0, zo, zf, ze, zd, List.set_cons_succ, List.set_cons_zero, O_mv, y3, xj, yg, O_un, ye, List.map_cons, List.map_nil, zx, zk, v8, List.cons_append, List.nil_append, List.length_cons, List.length_nil, Nat.reduceAdd, Nat.reduceSub, Nat.zero_add, Bool.not_false, zm, yc, za, xa, w8, xb, z7, zq, zj, yr, ym, zg, zh, Nat.add_zero, List.getElem?_cons_zero, Bool.bne_false, jp, eq_self, zs, yk, laid, xo, xq, zs, rq, fd (e.more _) hx, zep, yev]
    exact ⟨trivial, trivial⟩
  obtain ⟨v, h', r, rfl, rfl⟩ := this
  exact r
theorem zow {b : Nat} {op w : Bys} {p : Nat} {l r : Value} {s : Bool} (hb : h[b]? = some (.cells (vh op w p l r s) 0 false)) : DF FF wk [pt b, .bool s, pt bb] h = some (tup [], h) := by
  have : ∃ v h', DF FF wk [pt b, .bool s, pt bb] h = some (v, h') ∧ (v = tup [] ∧ h' = h) := by
    refine wz pg ?_
    have rb : Heap.read1 h ⟨b, 5, some 0⟩ = some (.bool s) := xz hb
    simp only [gw, ya, zt, yo, zb, zw, yb, zn, zc, zo, ze, zd, List.set_cons_succ, List.set_cons_zero, O_mv, yg, zx, zk, List.cons_append, List.nil_append, List.length_cons, List.length_nil, Nat.reduceAdd, Nat.reduceSub, Nat.zero_add, zm, yc, za, xb, z7, zq, zj, zg, zh, w4, beq_self_eq_true, jp, zhs, eq_self, rb, bne_self_eq_false, wq, w4]
    exact ⟨trivial, trivial⟩
  obtain ⟨v, h', r, rfl, rfl⟩ := this
  exact r
theorem znr (e : Rd P h i d 0 a) (hq : h[q]? = some (.cells [pt P.r, km, rm, nn] 0 false)) (hbb : h[bb]? = some (.cells [pt q] 0 false)) {b : Nat} {op w : Bys} {p : Nat} {l r : Value} {s t : Bool} (hb : h[b]? = some (.cells (vh op w p l r s) 0 false)) (hst : (s == t) = false) :
    ∃ h', DF FF wk [pt b, .bool t, pt bb] h = some (tup [], h') ∧ Rd P h' i d 41 p ∧ Mv P h h' ∧ h'[P.c]? = h[P.c]? := by
  have : ∃ v h', DF FF wk [pt b, .bool t, pt bb] h = some (v, h') ∧ (v = tup [] ∧ Rd P h' i d 41 p ∧ Mv P h h' ∧ h'[P.c]? = h[P.c]?) := by
    refine wz pg ?_
    have rb : ∀ j, Heap.read1 h ⟨b, j, some 0⟩ = (vh op w p l r s)[j]? := fun j => xz hb
    have rq : ∀ j, Heap.read1 h ⟨q, j, some 0⟩ = ([pt P.r, km, rm, nn] : List Value)[j]? := fun j => xz hq
    have rbb : Heap.read1 h ⟨bb, 0, some 0⟩ = some (pt q) := xz hbb
    have n5 : (vh op w p l r s)[5]? = some (.bool s) := rfl
    obtain ⟨h', f, e', m⟩ := zjg e 41 p (by omega)
    simp only [Int.cast_ofNat_Int] at f
    simp only [gw, ya, zt, zb, zz, yb, zn, zc, zo, zf, ze, zd, List.set_cons_succ, List.set_cons_zero, O_mv, yg, ye, List.map_cons, List.map_nil, zx, zk, List.cons_append, List.nil_append, List.length_cons, List.length_nil, Nat.reduceAdd, Nat.reduceSub, Nat.zero_add, Bool.not_false, zm, yc, za, xb, z7, zq, zj, zg, zh, Nat.add_zero, List.getElem?_cons_zero, Bool.bne_true, jp, zhs, eq_self, rb, n5, bj, hst, rq, rbb, f, wq]
    rw [e.fin e' m (tup []) (.inr (.inr (.inl (by omega))))]
    exact ⟨trivial, e', m, by rw [e'.hc, e.hc]⟩
  obtain ⟨v, h', r, rfl, e', m, hc⟩ := this
  exact ⟨h', r, e', m, hc⟩
theorem yei (e : Rd P h i d x a) (hx : x ≠ 0) (hq : h[q]? = some (.cells [pt P.r, km, rm, nn] 0 false)) (hbb : h[bb]? = some (.cells [pt q] 0 false)) {b : Nat} {op w : Bys} {p : Nat} {l r : Value} {s : Bool} (t : Bool) (hb : h[b]? = some (.cells (vh op w p l r s) 0 false)) :
    DF FF wk [pt b, .bool t, pt bb] h = some (tup [], h) := by
  cases hst : (s == t)
  · have : ∃ v h', DF FF wk [pt b, .bool t, pt bb] h = some (v, h') ∧ (v = tup [] ∧ h' = h) := by
      refine wz pg ?_
      have rb : ∀ j, Heap.read1 h ⟨b, j, some 0⟩ = (vh op w p l r s)[j]? := fun j => xz hb
      have rq : ∀ j, Heap.read1 h ⟨q, j, some 0⟩ = ([pt P.r, km, rm, nn] : List Value)[j]? := fun j => xz hq
      have rbb : Heap.read1 h ⟨bb, 0, some 0⟩ = some (pt q) := xz hbb
      have n5 : (vh op w p l r s)[5]? = some (.bool s) := rfl
      simp only [gw, ya, zt, zb, zz, yb, zn, zc, zo, zf, ze, zd, List.set_cons_succ, List.set_cons_zero, O_mv, yg, ye, List.map_cons, List.map_nil, zx, zk, List.cons_append, List.nil_append, List.length_cons, List.length_nil, Nat.reduceAdd, Nat.reduceSub, Nat.zero_add, Bool.not_false, zm, yc, za, xb, z7, zq, zj, zg, zh, Nat.add_zero, List.getElem?_cons_zero, w4, Bool.bne_true, jp, zhs, eq_self, rb, n5, bj, hst, rq, rbb, zkq e hx, wq, w4]
      exact ⟨trivial, trivial⟩
    obtain ⟨v, h', r, rfl, rfl⟩ := this
    exact r
  · rw [← eq_of_beq hst]; exact zow hb
end
end Go.Proofs.YtljdbheclfaloaaGreatDoor.AM
namespace Go.Proofs.YtljdbheclfaloaaGreatDoor.AM
open Go.RowKit
set_option linter.unusedSimpArgs false
set_option linter.unusedVariables false

theorem zna {e : Nat} : ∀ {k : Nat} {ts r : List Tok} {gs : List Gv}, zam e k ts = .ok gs r → r.length ≤ ts.length ∧ gs.length ≤ ts.length
  | 0, ts, r, gs, h => by rw [zam] at h; cases h; simp
  | k + 1, ts, r, gs, h => by
    rw [zam] at h
    cases hg : zma e ts with
    | bad c a => rw [hg] at h; cases h
    | ok g r1 =>
      have h1 := zh9 hg
      rw [hg] at h
      cases r1 with
      | nil => cases h; simp at h1 ⊢; omega
      | cons t r1 =>
        simp only at h
        split at h
        · cases hr : zam e k r1 with
          | bad c a => rw [hr] at h; cases h
          | ok gs' r2 =>
            rw [hr] at h
            obtain ⟨a, b⟩ := zna hr
            simp only [List.length_cons] at h1
            cases h
            simp only [List.length_cons]; omega
        · cases h; simp only [List.length_cons, List.length_nil] at h1 ⊢; omega
theorem zlx {e : Nat} {rc : Bool} {ts r : List Tok} {s : Stm} (h : zoj e rc ts = .ok s r) : r.length ≤ ts.length ∧ ∀ rc' gs, s = .lets rc' gs → gs.length ≤ ts.length := by
  unfold zoj at h
  split at h
  · cases h
  · rename_i gs r' hg
    cases h
    obtain ⟨a, b⟩ := zna hg
    exact ⟨a, fun rc' gs' hs => by cases hs; exact b⟩
theorem ziz {e : Nat} {k : Ck} {ts r : List Tok} {s : Stm} (h : ze6 e k ts = .ok s r) : r.length ≤ ts.length ∧ ∀ rc' gs, s ≠ .lets rc' gs := by
  unfold ze6 at h
  split at h
  · cases h
  · rename_i x hx
    cases h; exact ⟨by simp, fun _ _ => by simp⟩
  · rename_i x t r1 hx
    have h1 := zf2 _ _ _ _ _ hx
    simp only [List.length_cons] at h1
    split at h
    · split at h
      · cases h
      · rename_i w r2 hn
        cases h
        cases r1 with
        | nil => cases hn
        | cons t2 r2' =>
          rw [zmm] at hn
          split at hn
          · cases hn; exact ⟨by simp at h1 ⊢; omega, fun _ _ => by simp⟩
          · cases hn
    · cases h; exact ⟨by simp; omega, fun _ _ => by simp⟩
theorem zfh {e : Nat} {t : Tok} {ts r : List Tok} {s : Stm} (h : zj2 e (t :: ts) = .ok s r) : r.length ≤ ts.length ∧ ∀ rc' gs, s = .lets rc' gs → gs.length ≤ ts.length := by
  rw [zj2] at h
  split at h
  · cases ts with
    | nil => exact zlx (rc := false) h
    | cons t2 r2 =>
      rw [letP] at h
      split at h
      · obtain ⟨a, b⟩ := zlx h
        exact ⟨by simp; omega, fun rc gs hs => by have := b rc gs hs; simp; omega⟩
      · exact zlx h
  split at h
  · obtain ⟨a, b⟩ := ziz h; exact ⟨a, fun rc gs hs => absurd hs (b rc gs)⟩
  split at h
  · obtain ⟨a, b⟩ := ziz h; exact ⟨a, fun rc gs hs => absurd hs (b rc gs)⟩
  split at h
  · obtain ⟨a, b⟩ := ziz h; exact ⟨a, fun rc gs hs => absurd hs (b rc gs)⟩
  · cases h
theorem zkl (e : Nat) : ∀ k k' ts, ts.length ≤ k → ts.length ≤ k' → bn e k ts = bn e k' ts
  | 0, k', ts, h, h' => by
    have : ts = [] := List.eq_nil_of_length_eq_zero (by omega)
    subst this
    cases k' <;> rfl
  | k + 1, 0, ts, h, h' => by
    have : ts = [] := List.eq_nil_of_length_eq_zero (by omega)
    subst this; rfl
  | k + 1, k' + 1, [], h, h' => rfl
  | k + 1, k' + 1, t :: ts, h, h' => by
    simp only [List.length_cons] at h h'
    rw [bn, bn]
    cases hs : zj2 e (t :: ts) with
    | bad c a => rfl
    | ok s r =>
      have := (zfh hs).1
      simp only
      rw [zkl e k k' r (by omega) (by omega)]
theorem ya0 {P : RP} {k : Nat} (hk : k < P.L.length) : bn P.en P.L.length (P.L.drop k) = match zj2 P.en (P.L.drop k) with
    | .bad c a => .bad c a
    | .ok s r => match bn P.en P.L.length r with
      | .bad c a => .bad c a
      | .ok l r2 => .ok (s :: l) r2 := by
  obtain ⟨q, hq⟩ : ∃ q, P.L.length = q + 1 := ⟨P.L.length - 1, by omega⟩
  rw [gx hk]
  rw [show bn P.en P.L.length (y5 P k :: P.L.drop (k + 1)) = bn P.en (q + 1) (y5 P k :: P.L.drop (k + 1)) by rw [← hq], bn]
  cases hs : zj2 P.en (y5 P k :: P.L.drop (k + 1)) with
  | bad c a => rfl
  | ok s r =>
    have := (zfh hs).1
    simp only [List.length_drop] at this
    simp only
    rw [zkl P.en q P.L.length r (by omega) (by omega)]
    rfl
theorem zvd {s : List UInt8} {c : Nat} (h : zf3 s = .bad c) : c ≠ 0 := by
  cases s with
  | nil => cases h; decide
  | cons b s =>
    rw [zf3] at h
    split at h
    · split at h
      · cases h
      · cases h; decide
    · split at h
      · cases h
      · split at h
        · cases h
        · split at h
          · cases h
          · cases h; decide
theorem zi6 : ∀ {f : Nat} {s : List UInt8} {a c p : Nat}, zgp f s a = .bad c p → c ≠ 0
  | 0, s, a, c, p, h => by cases h
  | f + 1, s, a, c, p, h => by
    rw [zgp] at h
    split at h
    · cases h
    · split at h
      · exact zi6 h
      · cases h; decide
      · split at h
        · rename_i kd k n hw
          cases hq : zgp f (s.drop k) (a + k) with
          | ok l => rw [hq] at h; cases h
          | bad c' p' => rw [hq] at h; cases h; exact zi6 hq
        · rename_i c' hw
          cases h; exact zvd hw
theorem zv1 {s : List UInt8} {a c p : Nat} (h : p8 s a = .bad c p) : c ≠ 0 := zi6 h
theorem yb2 {s : List UInt8} {kd k a : Nat} {n : Int} (h : zf3 s = .word kd k n) : zqq ⟨kd, s.take k, n, a⟩ := by
  have hp := zfx h
  cases s with
  | nil => cases h
  | cons c s =>
    have ht : ∀ k, 1 ≤ k → (c :: s).take k = c :: s.take (k - 1) := fun k hk => by
      obtain ⟨m, rfl⟩ : ∃ m, k = m + 1 := ⟨k - 1, by omega⟩
      rfl
    rw [zf3] at h
    split at h
    · split at h
      · cases h; exact .inr (.inl rfl)
      · cases h
    · split at h
      · rename_i hl
        cases h
        exact .inl ⟨rfl, c, _, ht _ hp.1, hl⟩
      · split at h
        · rename_i hm
          cases h
          refine .inr (.inr ⟨rfl, c, _, ht _ hp.1, ?_⟩)
          rcases Bool.or_eq_true_iff.1 hm with hm | hm
          · have : c = 47 := by simp [List.isPrefixOf] at hm; exact hm.1.symm
            rw [this]; rfl
          · have : c = 92 := by simp [List.isPrefixOf] at hm; exact hm.1.symm
            rw [this]; rfl
        · split at h
          · rename_i hm
            cases h
            exact .inr (.inr ⟨rfl, c, _, ht _ hp.1, hm⟩)
          · cases h
theorem zn0 : ∀ {f : Nat} {s : List UInt8} {a : Nat} {l : List Tok}, zgp f s a = .ok l → (∀ t ∈ l, zqq t) ∧ l.length ≤ f
  | 0, s, a, l, h => by cases h; simp
  | f + 1, s, a, l, h => by
    rw [zgp] at h
    split at h
    · cases h; simp
    · split at h
      · obtain ⟨x, y⟩ := zn0 h; exact ⟨x, by omega⟩
      · cases h
      · split at h
        · rename_i kd k n hw
          cases hq : zgp f (s.drop k) (a + k) with
          | ok m =>
            rw [hq] at h
            obtain ⟨x, y⟩ := zn0 hq
            cases h
            refine ⟨fun t ht => ?_, by simp; omega⟩
            rcases List.mem_append.1 ht with ht | ht
            · simp at ht; subst ht; exact yb2 hw
            · exact x t ht
          | bad c' p' => rw [hq] at h; cases h
        · cases h
theorem yat {s : List UInt8} {a : Nat} {l : List Tok} (h : p8 s a = .ok l) : (∀ t ∈ l, zqq t) ∧ l.length ≤ s.length := zn0 h
theorem Pre.of {h H : Heap} (hl : h.length ≤ H.length) (hk : ∀ (b : Nat) (o : AObj), h[b]? = some o → H[b]? = some o) : Pre h H := by
  refine ⟨H.drop h.length, ?_⟩
  have : H.take h.length = h := by
    apply List.ext_getElem?
    intro b
    rw [List.getElem?_take]
    by_cases hb : b < h.length
    · rw [if_pos hb]
      have := hk b h[b] (List.getElem?_eq_getElem hb)
      rw [this, List.getElem?_eq_getElem hb]
    · rw [if_neg hb, List.getElem?_eq_none (by omega)]
  rw [← this, List.length_take, Nat.min_eq_left (by omega), List.take_append_drop]
/-! Known at first. -/
def w5 (d : Bys × Bool) : List Value := [str d.1, .bool d.2]
end Go.Proofs.YtljdbheclfaloaaGreatDoor.AM
namespace Go.Proofs.YtljdbheclfaloaaGreatDoor.AM
open Go.RowKit
set_option linter.unusedSimpArgs false
set_option linter.unusedVariables false
set_option maxRecDepth 20000

theorem zqc {h : Heap} {s : Value} {rows : List (List Value)} (e : Sl h s 4 rows) (hr : rows.length ≤ 1000000) : ∃ s' h', DF FF v6 [s] h = some (s', h') ∧ Own h h' s' 4 rows ∧ Pre h h' := by
  have : ∃ s' h', DF FF v6 [s] h = some (s', h') ∧ (Own h h' s' 4 rows ∧ Pre h h') := by
    refine wz zat ?_
    rcases e with ⟨⟨rfl, rfl⟩ | ⟨b, o, v, rfl, hrd⟩, hc⟩
    · simp only [jj, ya, zt, xf, zb, zz, yb, zn, zc, zo, zf, ze, zd, List.set_cons_succ, List.set_cons_zero, O_mv, List.cons_append, List.nil_append, List.length_cons, List.length_nil, Nat.reduceSub, Nat.zero_add, zm, yc, za, xa, zg, zh, w4, wh, Bool.bne_false, jp, yk, nils, show q8 .slice (.slice none 0 0) (.slice none 0 0) = some true from rfl, xq, wh, w4]
      exact ⟨Own.nil _ _ _, Pre.refl h⟩
    · have hl := bq rows 4 hc
      have hs : zd4 (h ++ [AObj.cells [] 0 false]) 4 (.slice (some ⟨b, o, some v⟩) rows.length 4) = some (rows.flatten, rows.length) := zs9 _ (zkh h _ hrd)
      have ha := zqn h (L := []) (size := 4) (bytes := 40) (m := 0) (n := rows.length) (ver := 0) (vals := []) (ys := rows.flatten) (by simp) (by unfold fp; omega)
      simp only [List.nil_append, Nat.zero_add] at ha
      simp only [jj, ya, zt, xf, yo, zb, zw, yb, zn, zc, zo, zf, ze, zd, List.set_cons_succ, List.set_cons_zero, O_mv, vd, w6, yd, xe, yx, List.cons_append, List.nil_append, List.length_cons, List.length_nil, Nat.reduceAdd, Nat.reduceSub, Nat.zero_add, zm, yc, za, slc, gp, zg, zh, wh, Bool.bne_false, jp, yk, show q8 .slice (.slice (some ⟨b, o, some v⟩) rows.length 4) (.slice none 0 0) = some false from rfl, xq, hs, ha, wh]
      rw [zgb h rfl]
      exact ⟨⟨.inr ⟨h.length, 1, Nat.le_refl _, rfl, by simp⟩, hc⟩, Pre.more (Pre.refl h) _⟩
  obtain ⟨s', h', q, a, b⟩ := this
  exact ⟨s', h', q, a, b⟩
theorem ygr {h : Heap} {s : Value} {rows : List (List Value)} (e : Sl h s 4 rows) (hr : rows.length ≤ 1000000) : ∃ s' c h', DF FF zgl [s] h = some (pt c, h') ∧ h'[c]? = some (.cells [s', .int .i64 0] 0 false) ∧ Own h h' s' 4 rows ∧ blk s' ≠ some c ∧ h.length ≤ c ∧ Pre h h' := by
  have : ∃ v h', DF FF zgl [s] h = some (v, h') ∧ ∃ s' c, (v = pt c ∧ h'[c]? = some (.cells [s', .int .i64 0] 0 false) ∧ Own h h' s' 4 rows ∧ blk s' ≠ some c ∧ h.length ≤ c ∧ Pre h h') := by
    refine wz zvm ?_
    obtain ⟨s', h1, q, a, p⟩ := zqc e hr
    obtain ⟨x, y, z, rfl⟩ := a.slice
    simp only [znj, ya, xf, zb, yb, zn, zc, zo, zf, ze, zd, List.set_cons_succ, List.set_cons_zero, O_mv, ye, List.map_cons, List.map_nil, wd, y6, yd, z8, yx, zm3, Nat.zero_lt_succ, List.cons_append, List.nil_append, List.length_cons, List.length_nil, Nat.reduceAdd, Nat.reduceSub, Nat.zero_add, zm, yc, za, w8, zg, zh, wh, eq_self, yf, zs, q, yf, zs, wh, kg]
    exact ⟨_, _, rfl, by simp, a.more _, fun h => by have := (a.lt h).2; omega, p.le, p.more _⟩
  obtain ⟨v, h', q, s', c, rfl, g⟩ := this
  exact ⟨s', c, h', q, g⟩
structure M3 (P : RP) (mb : Nat) (h h' : Heap) : Prop where
  keep : ∀ (b : Nat) (o : AObj), h[b]? = some o → b ≠ P.r → b ≠ P.c → b ≠ mb → h'[b]? = some o
  le : h.length ≤ h'.length
theorem M3.refl (P : RP) (mb : Nat) (h : Heap) : M3 P mb h h := ⟨fun _ _ e _ _ _ => e, Nat.le_refl _⟩
theorem zxb (z0 z1 z2 z3 : Value) {row : List Value} (h : row.length = 4) : wo [z0, z1, z2, z3] [(0, 4, agg row)] = some row := by
  match row, h with
  | [a, b, c, d], _ => exact zem z0 z1 z2 z3 a b c d
def PaS (P : RP) (mb : Nat) (H4 : Heap) (R : PR (List Stm)) (m : Nat) (K : Heap) : Prop :=
  (∃ k ss T acc rows, m = P.L.length - k + 1 ∧ Rd P K k 0 0 0 ∧ K[mb]? = some (.cells [nils, ss] 0 false) ∧ Own [] K ss 4 rows ∧ StsP K T rows acc ∧ (∀ z, T z → mb < z ∧ z < K.length ∧ blk ss ≠ some z) ∧ (∀ b, blk ss = some b → mb < b) ∧ M3 P mb H4 K ∧ acc.length ≤ k ∧
    (∀ rc gs, Stm.lets rc gs ∈ acc → gs.length ≤ 8192) ∧ (match bn P.en P.L.length (P.L.drop k) with | .bad c a => R = .bad c a | .ok l r => R = .ok (acc ++ l) r)) ∨
  (∃ k c a x y z rows, m = 0 ∧ Rd P K k 0 c a ∧ c ≠ 0 ∧ R = .bad c a ∧ K[mb]? = some (.cells [nils, .slice x y z] 0 false) ∧ M3 P mb H4 K ∧ Own [] K (.slice x y z) 4 rows ∧ (∀ b, blk (.slice x y z) = some b → mb < b) ∧ rows.length ≤ 8193)
def PaI (P : RP) (mb : Nat) (H4 : Heap) (ns : Value) (R : PR (List Stm)) (m : Nat) (st : St) : Prop := ∃ K, (∃ j : Nat → Value, st = ⟨[j 0, ns, j 2, j 3, j 4, j 5, j 6, j 7, j 8, j 9, pt P.r, pt mb, j 12, j 13, j 14, j 15, j 16, j 17, j 18, j 19, j 20, j 21, j 22, j 23, j 24, j 25, j 26, j 27, j 28, j 29, j 30, j 31, j 32, j 33, j 34, j 35, j 36, j 37, j 38, j 39, j 40, j 41, j 42, j 43, j 44, j 45, j 46, j 47, j 48, j 49, j 50, j 51, j 52, j 53, j 54, j 55, j 56, j 57, j 58, j 59, j 60, j 61, j 62, j 63, j 64, j 65, j 66, j 67, j 68, j 69, j 70, j 71, j 72, j 73, j 74, j 75, j 76, j 77, j 78, j 79, j 80, j 81, j 82, j 83, j 84, j 85, j 86, j 87, j 88, j 89, j 90, j 91, j 92, j 93, j 94, j 95, j 96, j 97, j 98, j 99, j 100, j 101, j 102, j 103, j 104, j 105, j 106, j 107, j 108, j 109, j 110, j 111, j 112, j 113, j 114, j 115, j 116, j 117, j 118, j 119, j 120, j 121, j 122, j 123, j 124, j 125, j 126, j 127, j 128, j 129, j 130], K⟩) ∧ PaS P mb H4 R m K
theorem ybz {P : RP} {mb : Nat} {H4 K : Heap} {R : PR (List Stm)} {k : Nat} {ss : Value} {T : Nat → Prop} {acc : List Stm} {rows : List (List Value)} (e4 : Rd P H4 0 0 0 0) (hl4 : H4.length = mb + 1) (hmr : mb ≠ P.r) (hmc : mb ≠ P.c) (hwm : blk P.ws ≠ some mb) (hcm : blk P.cs ≠ some mb) (hk : k < P.L.length) (eK : Rd P K k 0 0 0) (hm : K[mb]? = some (.cells [nils, ss] 0 false)) (own : Own [] K ss 4 rows) (st : StsP K T rows acc) (hT : ∀ z, T z → mb < z ∧ z < K.length ∧ blk ss ≠ some z) (hb : ∀ b, blk ss = some b → mb < b) (m4 : M3 P mb H4 K) (hacc : acc.length ≤ k)
    (hgs : ∀ rc gs, Stm.lets rc gs ∈ acc → gs.length ≤ 8192) (hR : (match bn P.en P.L.length (P.L.drop k) with | .bad c a => R = .bad c a | .ok l r => R = .ok (acc ++ l) r)) :
    ∃ row K1 x y z K2, row.length = 4 ∧ DF FF gn [pt P.r] K = some (agg row, K1) ∧ Heap.read1 K1 ⟨mb, 1, some 0⟩ = some ss ∧
      k9 (K1 ++ [.cells row 0 false]) 4 64 ss (zd4 (K1 ++ [.cells row 0 false]) 4 (.slice (some ⟨K1.length, 0, some 0⟩) 1 4)) = some (.slice x y z, K2) ∧ Heap.write1 K2 ⟨mb, 1, some 0⟩ (.slice x y z) = some (K2.set mb (.cells [nils, .slice x y z] 0 false)) ∧
      ∃ m', m' < P.L.length - k + 1 ∧ PaS P mb H4 R m' (K2.set mb (.cells [nils, .slice x y z] 0 false)) := by
  have hL := P.len
  have lr := e4.lr; have lc := e4.lc
  obtain ⟨v, K1, q1, x1⟩ := zsd eK hk
  have m1 : Mv P K K1 := by
    cases hx : zj2 P.en (P.L.drop k) with
    | ok s r => rw [hx] at x1; obtain ⟨_, _, _, _, _, _, m⟩ := x1; exact m
    | bad c a => rw [hx] at x1; obtain ⟨_, _, _, _, _, m⟩ := x1; exact m
  obtain ⟨row, hrow, hr4⟩ : ∃ row, v = agg row ∧ row.length = 4 := by
    cases hx : zj2 P.en (P.L.drop k) with
    | ok s r => rw [hx] at x1; obtain ⟨row, _, hv, _, _, st, _⟩ := x1; exact ⟨row, hv, st.len⟩
    | bad c a => rw [hx] at x1; obtain ⟨row, hv, h4, _⟩ := x1; exact ⟨row, hv, h4⟩
  subst hrow
  have hm1 := m1.keep _ _ hm hmr hmc
  have own1 : Own [] K1 ss 4 rows := own.keep fun b hb' o ho => m1.keep b o ho (by have := hb b hb'; omega) (by have := hb b hb'; omega)
  obtain ⟨ss', K2, p1, p2, p3, p4, p5, p6⟩ := own1.push (⟨_, rfl⟩ : Pre [] K1) (row := row) (bytes := 64) hr4 (by rw [(st.len).1]; unfold fp; omega)
  obtain ⟨x, y, z, rfl⟩ := p2.slice
  have hbm : blk ss ≠ some mb := fun h => by have := hb _ h; omega
  have hm2 : K2[mb]? = some (.cells [nils, ss] 0 false) := p5 _ _ hm1 hbm
  have lm2 := (List.getElem?_eq_some_iff.1 hm2).1
  have blk2 : ∀ b, blk (.slice x y z) = some b → mb < b := fun b hb' => by
    rcases p6 with h | ⟨j, h, h'⟩
    · rw [h] at hb'; exact hb b hb'
    · rw [h] at hb'; cases hb'; have := (List.getElem?_eq_some_iff.1 hm1).1; omega
  have m2 : M3 P mb H4 (K2.set mb (.cells [nils, .slice x y z] 0 false)) := ⟨fun b o ho n1 n2 n3 => by
    have hlt := (List.getElem?_eq_some_iff.1 ho).1
    rw [List.getElem?_set_ne (Ne.symm n3)]
    exact p5 b o (m1.keep b o (m4.keep b o ho n1 n2 n3) n1 n2) fun h => by have := hb b h; omega, by rw [List.length_set]; have := m4.le; have := m1.le; omega⟩
  have rd2 : ∀ k' x' a', Rd P K1 k' 0 x' a' → Rd P (K2.set mb (.cells [nils, .slice x y z] 0 false)) k' 0 x' a' := fun k' x' a' e => by
    have kp : ∀ b o, b < H4.length → b ≠ mb → K1[b]? = some o → (K2.set mb (.cells [nils, .slice x y z] 0 false))[b]? = some o := fun b o hlt n3 ho => by
      rw [List.getElem?_set_ne (Ne.symm n3)]; exact p5 b o ho fun h => by have := hb b h; omega
    have wlt : ∀ b, blk P.ws = some b → b < H4.length ∧ b ≠ mb := fun b hb' => ⟨e4.sw.lt hb', by rintro rfl; exact hwm hb'⟩
    have clt : ∀ b, blk P.cs = some b → b < H4.length ∧ b ≠ mb := fun b hb' => ⟨e4.sc.lt hb', by rintro rfl; exact hcm hb'⟩
    exact ⟨kp _ _ lr (Ne.symm hmr) e.hr, kp _ _ lc (Ne.symm hmc) e.hc, e.sw.keep fun b hb' o ho => kp b o (wlt b hb').1 (wlt b hb').2 ho, e.sc.keep fun b hb' o ho => kp b o (clt b hb').1 (clt b hb').2 ho, e.le⟩
  refine ⟨row, K1, x, y, z, K2, hr4, q1, xz hm1, p1, by rw [po hm2 (by simp)]; rfl, ?_⟩
  rw [ya0 hk] at hR
  cases hx : zj2 P.en (P.L.drop k) with
  | bad c a =>
    rw [hx] at x1 hR
    obtain ⟨_, _, _, hc, ⟨k', e1⟩, _⟩ := x1
    exact ⟨0, by omega, .inr ⟨k', c, a, x, y, z, rows ++ [row], rfl, rd2 _ _ _ e1, hc, hR, by rw [List.getElem?_set_self lm2], m2, p2.keep fun b hb' o ho => by rw [List.getElem?_set_ne (by have := blk2 b hb'; omega)]; exact ho, blk2, by rw [List.length_append, (st.len).1]; simp; omega⟩⟩
  | ok s r =>
    rw [hx] at x1 hR
    obtain ⟨row', k', hrr, rfl, e1, sp, _⟩ := x1
    have hrr : row = row' := by simpa [agg] using hrr
    subst hrr
    have hsh := hx
    rw [gx hk] at hsh
    obtain ⟨s1, s2⟩ := zfh hsh
    simp only [List.length_drop] at s1 s2
    have kle := e1.le
    have hlK := (List.getElem?_eq_some_iff.1 hm).1
    refine ⟨P.L.length - k' + 1, by omega, .inl ⟨k', .slice x y z, fun w => T w ∨ Iv K.length K1.length w, acc ++ [s], rows ++ [row], rfl, rd2 _ _ _ e1, by rw [List.getElem?_set_self lm2], p2.keep fun b hb' o ho => by rw [List.getElem?_set_ne (by have := blk2 b hb'; omega)]; exact ho, ?_, ?_, blk2, m2, by simp; omega, ?_, ?_⟩⟩
    · refine StsP.snoc (sp.keep fun w o hw ho => ?_) (st.keep fun w o hw ho => ?_) fun w hw hI => by have := (hT w hw).2.1; have := hI.1; omega
      · rw [List.getElem?_set_ne (by have := hw.1; omega)]
        exact p5 w o ho fun h => by have := (own.lt h).2; have := hw.1; omega
      · obtain ⟨t1, t2, t3⟩ := hT w hw
        rw [List.getElem?_set_ne (by omega)]
        exact p5 w o (m1.keep w o ho (by omega) (by omega)) t3
    · intro w hw
      rw [List.length_set]
      have hlw : w < K1.length ∧ mb < w ∧ blk ss ≠ some w := by
        rcases hw with hw | hw
        · obtain ⟨t1, t2, t3⟩ := hT w hw; have := m1.le; exact ⟨by omega, t1, t3⟩
        · have := hw.1; have := hw.2; exact ⟨by omega, by omega, fun h => by have := (own.lt h).2; omega⟩
      refine ⟨hlw.2.1, by omega, fun h => ?_⟩
      rcases p6 with h6 | ⟨j, h6, h7⟩
      · rw [h6] at h; exact hlw.2.2 h
      · rw [h6] at h; cases h; omega
    · intro rc gs hmem
      rcases List.mem_append.1 hmem with hmem | hmem
      · exact hgs rc gs hmem
      · simp at hmem; have := s2 rc gs hmem.symm; omega
    · simp only at hR
      cases hq : bn P.en P.L.length (P.L.drop k') with
      | bad c a => rw [hq] at hR; exact hR
      | ok l2 r2 => rw [hq] at hR; simp only at hR ⊢; rw [hR]; simp
theorem zty {F : Funcs} {b : pz} {Q : AEx → St → Prop} (id : Nat) (I : Nat → St → Prop) (P : St → Prop) (step : ∀ m s, I m s → WPD (D F b s) (zxx I m (outQ id P))) (m : Nat) (s : St) (h0 : I m s) (hq : ∀ s, P s → Q (.exit id) s) : WPD (D F (.loop b) s) Q :=
  (zio I step m s h0).mono fun x s ⟨hx, hp⟩ => by subst hx; exact hq s hp
structure PaE (P : RP) (mb : Nat) (H4 K : Heap) (R : PR (List Stm)) (k x a : Nat) (ss : Value) (rows : List (List Value)) : Prop where
  rd : Rd P K k 0 x a
  mo : K[mb]? = some (.cells [nils, ss] 0 false)
  own : Own [] K ss 4 rows
  lo : ∀ b, blk ss = some b → mb < b
  m3 : M3 P mb H4 K
  rl : rows.length ≤ 8193
  ok : x = 0 → a = 0 ∧ ∃ T acc, R = .ok acc [] ∧ StsP K T rows acc ∧ (∀ z, T z → mb < z ∧ z < K.length ∧ blk ss ≠ some z) ∧ (∀ rc gs, Stm.lets rc gs ∈ acc → gs.length ≤ 8192) ∧ acc.length ≤ 8192
  bad : x ≠ 0 → R = .bad x a
def PaO (P : RP) (mb : Nat) (H4 : Heap) (ns : Value) (R : PR (List Stm)) (st : St) : Prop := ∃ K, (∃ j : Nat → Value, st = ⟨[j 0, ns, j 2, j 3, j 4, j 5, j 6, j 7, j 8, j 9, pt P.r, pt mb, j 12, j 13, j 14, j 15, j 16, j 17, j 18, j 19, j 20, j 21, j 22, j 23, j 24, j 25, j 26, j 27, j 28, j 29, j 30, j 31, j 32, j 33, j 34, j 35, j 36, j 37, j 38, j 39, j 40, j 41, j 42, j 43, j 44, j 45, j 46, j 47, j 48, j 49, j 50, j 51, j 52, j 53, j 54, j 55, j 56, j 57, j 58, j 59, j 60, j 61, j 62, j 63, j 64, j 65, j 66, j 67, j 68, j 69, j 70, j 71, j 72, j 73, j 74, j 75, j 76, j 77, j 78, j 79, j 80, j 81, j 82, j 83, j 84, j 85, j 86, j 87, j 88, j 89, j 90, j 91, j 92, j 93, j 94, j 95, j 96, j 97, j 98, j 99, j 100, j 101, j 102, j 103, j 104, j 105, j 106, j 107, j 108, j 109, j 110, j 111, j 112, j 113, j 114, j 115, j 116, j 117, j 118, j 119, j 120, j 121, j 122, j 123, j 124, j 125, j 126, j 127, j 128, j 129, j 130], K⟩) ∧ ∃ k x a ss rows, PaE P mb H4 K R k x a ss rows
end Go.Proofs.YtljdbheclfaloaaGreatDoor.AM
namespace Go.Proofs.YtljdbheclfaloaaGreatDoor.AM
open Go.RowKit
set_option linter.unusedSimpArgs false
set_option linter.unusedVariables false
set_option maxRecDepth 20000

def ChkR (P : RP) (i : Nat) (S : Nat → Prop) (v : Value) (pl : Nat) (h' : Heap) : CR Ex → Prop
  | .ok e' => TreeP h' S v e' ∧ e'.pl = pl ∧ Rd P h' i 0 0 0
  | .bad c a => c ≠ 0 ∧ (∃ e', TreeP h' S v e' ∧ e'.pl = pl) ∧ Rd P h' i 0 c a
def ze4 (P : RP) (kn : Kn) (rc : List Bys) (rt : Bool) (e : Ex) : Prop := ∀ (hb h : Heap) (i0 i q km n : Nat) (rm : Value) (S : Nat → Prop) (v : Value), Rd P hb i0 0 0 0 → Rd P h i 0 0 0 → Ch P h q km rm n kn rc → TreeP h S v e → Cl P hb q km rm S → (∀ z, S z → z < h.length) →
  ∃ h', DF FF xn [pt q, v, .bool rt] h = some (tup [], h') ∧ ChkR P i S v e.pl h' (chkE kn rc rt e) ∧ Kp P S h h'
theorem ChkR.fin {P : RP} {i pl : Nat} {S : Nat → Prop} {v : Value} {h H : Heap} {R : CR Ex} (eh : Rd P h i 0 0 0) (k : Kp P S h H) (hS : ∀ z, S z → z < h.length) (r : ChkR P i S v pl H R) (w : Value) : ChkR P i S v pl (AM.finish h w H) R ∧ Kp P S h (AM.finish h w H) := by
  rcases zaj h H w with hf | ⟨hf, hk⟩
  · rw [hf]; exact ⟨r, k⟩
  · rw [hf]
    have g : ∀ b o, b < h.length → H[b]? = some o → h[b]? = some o := fun b o hb ho => by
      rw [← hk, List.getElem?_take, if_pos hb]; exact ho
    have rd : ∀ x a, Rd P H i 0 x a → Rd P h i 0 x a := fun x a e =>
      ⟨g _ _ eh.lr e.hr, g _ _ eh.lc e.hc, eh.sw, eh.sc, eh.le⟩
    refine ⟨?_, Kp.refl P S h⟩
    cases R with
    | ok e' => exact ⟨r.1.keep fun b o hb ho => g b o (hS b hb) ho, r.2.1, rd _ _ r.2.2⟩
    | bad c a =>
      obtain ⟨hc, ⟨e', t, hp⟩, e⟩ := r
      exact ⟨hc, ⟨e', t.keep fun b o hb ho => g b o (hS b hb) ho, hp⟩, rd _ _ e⟩
theorem jb (op w : Bys) (a : Nat) (l r : Value) (s : Bool) : (vh op w a l r s)[0]? = some (str op) := rfl
theorem zhi (op w : Bys) (a : Nat) (l r : Value) (s : Bool) : (vh op w a l r s)[1]? = some (str w) := rfl
theorem qv (op w : Bys) (a : Nat) (l r : Value) (s : Bool) : (vh op w a l r s)[3]? = some l := rfl
theorem qp (op w : Bys) (a : Nat) (l r : Value) (s : Bool) : (vh op w a l r s)[4]? = some r := rfl
theorem zbv (op w : Bys) (a : Nat) (l r : Value) (s : Bool) : (vh op w a l r s)[5]? = some (.bool s) := rfl
theorem ziv (op w : Bys) (a : Nat) (l r : Value) (s t : Bool) : (vh op w a l r s).set 5 (.bool t) = vh op w a l r t := rfl
theorem Rd.node {P : RP} {hb h : Heap} {i i' x a x' a' d d' b : Nat} (e0 : Rd P hb i d x a) (e : Rd P h i' d' x' a') (hlb : hb.length ≤ b) (o : AObj) : Rd P (h.set b o) i' d' x' a' := e0.upd e hlb o
theorem Kp.set {P : RP} {S : Nat → Prop} {h h' : Heap} {b : Nat} (k : Kp P S h h') (hb : S b) (o : AObj) : Kp P S h (h'.set b o) :=
  ⟨fun c o' ho n1 n2 => by rw [List.getElem?_set_ne (by rintro rfl; exact n1 hb)]; exact k.keep c o' ho n1 n2, by rw [List.length_set]; exact k.le⟩
set_option maxHeartbeats 4000000 in
theorem zut (P : RP) (kn : Kn) (rc : List Bys) (s : Bool) (a : Nat) (w : Bys) (rt : Bool) : ze4 P kn rc rt (.name s a w) := by
  intro hb h i0 i q km n rm S v e0 eh ch tr cl hS
  obtain ⟨b, rfl, hbS, hbo⟩ := tr
  have : ∃ v h', DF FF xn [pt q, pt b, .bool rt] h = some (v, h') ∧ (v = tup [] ∧ ChkR P i S (pt b) a h' (chkE kn rc rt (.name s a w)) ∧ Kp P S h h') := by
    refine wz qi ?_
    obtain ⟨h0, hh0⟩ : ∃ h0, h0 = h ++ [AObj.cells [pt q] 0 false] := ⟨_, rfl⟩
    have eh0 : Rd P h0 i 0 0 0 := by rw [hh0]; exact eh.more _
    have k0 : Kp P S h h0 := by rw [hh0]; exact Kp.add _ _ _ _
    have hbb : h0[h.length]? = some (.cells [pt q] 0 false) := by rw [hh0]; simp
    have ch0 := ch.kp eh k0 cl.q cl.k cl.r
    have hn : h0[b]? = some (.cells (vh zfy w a nilP nilP s) 0 false) := by rw [hh0]; exact y7 _ hbo
    have rb : ∀ j, Heap.read1 h0 ⟨b, j, some 0⟩ = (vh zfy w a nilP nilP s)[j]? := fun j => xz hn
    have rq : ∀ j, Heap.read1 h0 ⟨q, j, some 0⟩ = ([pt P.r, .map (some km), rm, .int .i64 (n : Int)] : List Value)[j]? := fun j => xz ch0.cq
    have rbb : ∀ j, Heap.read1 h0 ⟨h.length, j, some 0⟩ = ([pt q] : List Value)[j]? := fun j => xz hbb
    have nil1 := fun rt => zfr (q := q) eh0 rt
    have lk := zf5 h0 ch0.ck (.bool false) true (w := w) (zsj kn w)
    have lr : zon h0 .str (.bool false) false rm (str w) = some (.bool (rc.contains w), h0) := by
      rcases ch0.cr with ⟨h1, h2⟩ | ⟨b', h1, h2⟩
      · rw [h1, h2, yb8]; rfl
      · rw [h1]
        rw [zf5 h0 h2 (.bool false) false (w := w) (zv9 rc w)]
        cases rc.contains w <;> rfl
    have wb : ∀ (K : Heap) (t : Bool), K[b]? = some (.cells (vh zfy w a nilP nilP s) 0 false) → Heap.write1 K ⟨b, 5, some 0⟩ (.bool t) = some (K.set b (.cells (vh zfy w a nilP nilP t) 0 false)) := fun K t hK => by rw [po hK (by simp [vh]), ziv]
    have fin : ∀ (K : Heap) (t : Bool) (x p : Nat), Rd P K i 0 x p → Kp P S h K → K[b]? = some (.cells (vh zfy w a nilP nilP s) 0 false) → (x = 0 → p = 0) → ∀ R, (R = if x = 0 then CR.ok (.name t a w) else .bad x p) → ChkR P i S (pt b) a (K.set b (.cells (vh zfy w a nilP nilP t) 0 false)) R ∧ Kp P S h (K.set b (.cells (vh zfy w a nilP nilP t) 0 false)) := by
      intro K t x p eK kK hK hx R hR
      have hlt := (List.getElem?_eq_some_iff.1 hK).1
      have tr : TreeP (K.set b (.cells (vh zfy w a nilP nilP t) 0 false)) S (pt b) (.name t a w) := ⟨b, rfl, hbS, List.getElem?_set_self hlt⟩
      refine ⟨?_, kK.set hbS _⟩
      rw [hR]
      by_cases h0 : x = 0
      · subst h0
        obtain rfl := hx rfl
        exact ⟨tr, rfl, e0.node eK (cl.lo b hbS) _⟩
      · rw [if_neg h0]
        exact ⟨h0, ⟨_, tr, rfl⟩, e0.node eK (cl.lo b hbS) _⟩
    have cb : (b = P.r) = False := by have := cl.lo b hbS; have := e0.lr; simp; omega
    have cc : (b = P.c) = False := by have := cl.lo b hbS; have := e0.lc; simp; omega
    cases hl : jk kn w with
    | none =>
      rw [hl] at lk
      obtain ⟨K, f, eK, mK⟩ := zjg eh0 40 a (by omega)
      simp only [Int.cast_ofNat_Int] at f
      have kK : Kp P S h K := (k0.trans (mK.kp fun o ho => by rw [eK.hc, ← eh0.hc]; exact ho)).weak fun z hz => hz.elim id False.elim
      have hK := mK.keep _ _ hn (by rw [ne_eq, cb]; exact not_false) (by rw [ne_eq, cc]; exact not_false)
      obtain ⟨f1, f2⟩ := fin K false 40 a eK kK hK (by omega) (chkE kn rc rt (.name s a w)) (by rw [chkE, hl]; rfl)
      have ff := ChkR.fin eh f2 hS f1
      simp only [Option.map_none, zg0, if_true] at lk
      cases rt
      · simp only [yw, ya, zt, yo, zb, zz, zw, yb, zn, yi, zc, zp, y0, zo, zf, ze, zd, List.set_cons_succ, List.set_cons_zero, O_mv, y3, xj, yy, yg, O_un, ye, List.map_cons, List.map_nil, zx, zk, v8, List.cons_append, List.nil_append, List.length_cons, List.length_nil, Nat.reduceAdd, Nat.reduceSub, Nat.zero_add, Bool.not_true, Bool.not_false, zm, yc, zy, za, zi, w8, xb, z7, xh, y8, zl, xc, g9, zq, zj, zg, zh, Nat.add_zero, List.getElem?_cons_zero, List.getElem?_cons_succ, Bool.bne_false, beq_self_eq_true, jp, eq_self, zs, yk, va, laid, zs, ← hh0, xo, xq, rbb, rq, ok_0 eh0, rb, jb, zhi, bj, qv, qp, nil1, gv, zfy, ycd, k8, lk, f, wb K false hK, wq]
        exact ⟨trivial, ff _⟩
      · simp only [yw, ya, zt, yo, zb, zz, zw, yb, zn, yi, zc, zp, y0, wv, zo, zf, ze, zd, List.set_cons_succ, List.set_cons_zero, O_mv, y3, xj, yy, yg, O_un, ye, List.map_cons, List.map_nil, zx, zk, v8, List.cons_append, List.nil_append, List.length_cons, List.length_nil, Nat.reduceAdd, Nat.reduceSub, Nat.zero_add, Bool.not_true, Bool.not_false, zm, yc, zy, za, zi, w8, xb, z7, xh, y8, zl, xc, g9, zq, zj, zg, zh, Nat.add_zero, List.getElem?_cons_zero, List.getElem?_cons_succ, Bool.bne_false, beq_self_eq_true, jp, eq_self, zs, yk, va, laid, zs, ← hh0, xo, xq, rbb, rq, ok_0 eh0, rb, jb, zhi, bj, qv, qp, nil1, gv, zfy, k8, lk, f, wb K false hK, wq]
        exact ⟨trivial, ff _⟩
    | some t =>
      rw [hl] at lk
      simp only [Option.map_some, zg0, if_true] at lk
      cases hm : (rt && rc.contains w)
      · obtain ⟨f1, f2⟩ := fin h0 t 0 0 eh0 k0 hn (fun _ => rfl) (chkE kn rc rt (.name s a w)) (by rw [chkE, hl]; simp only [hm]; rfl)
        have ff := ChkR.fin eh f2 hS f1
        cases rt
        · simp only [yw, ya, zt, yo, zb, zz, zw, yb, zn, yi, zc, zp, y0, vq, zo, zf, ze, zd, List.set_cons_succ, List.set_cons_zero, O_mv, y3, xj, yy, yg, O_un, ye, List.map_cons, List.map_nil, zx, zk, v8, List.cons_append, List.nil_append, List.length_cons, List.length_nil, Nat.reduceAdd, Nat.reduceSub, Nat.zero_add, Bool.not_true, zm, yc, zy, za, zi, w8, xb, z7, xh, y8, zl, xc, g9, zq, zj, zg, zh, Nat.add_zero, List.getElem?_cons_zero, List.getElem?_cons_succ, Bool.bne_false, beq_self_eq_true, jp, eq_self, zs, yk, va, laid, zs, ← hh0, xo, xq, rbb, rq, ok_0 eh0, rb, jb, zhi, qv, qp, nil1, gv, zfy, ycd, k8, lk, wb h0 t hn, wq]
          exact ⟨trivial, ff _⟩
        · rw [Bool.true_and] at hm
          simp only [yw, ya, zt, yo, zb, zz, zw, yb, zn, yi, zc, zp, xy, y0, wv, zo, zf, ze, zd, List.set_cons_succ, List.set_cons_zero, O_mv, y3, xj, yy, yg, O_un, ye, List.map_cons, List.map_nil, zx, zk, v8, List.cons_append, List.nil_append, List.length_cons, List.length_nil, Nat.reduceAdd, Nat.reduceSub, Nat.zero_add, Bool.not_true, zm, yc, zy, za, zi, w8, xb, z7, xh, y8, zl, xc, g9, zq, zj, zg, zh, Nat.add_zero, List.getElem?_cons_zero, List.getElem?_cons_succ, Bool.bne_false, beq_self_eq_true, jp, eq_self, zs, yk, va, laid, zs, ← hh0, xo, xq, rbb, rq, ok_0 eh0, rb, jb, zhi, qv, qp, nil1, gv, zfy, k8, lk, lr, hm, wb h0 t hn, wq]
          exact ⟨trivial, ff _⟩
      · obtain ⟨K, f, eK, mK⟩ := zjg eh0 43 a (by omega)
        simp only [Int.cast_ofNat_Int] at f
        have kK : Kp P S h K := (k0.trans (mK.kp fun o ho => by rw [eK.hc, ← eh0.hc]; exact ho)).weak fun z hz => hz.elim id False.elim
        have hK := mK.keep _ _ hn (by rw [ne_eq, cb]; exact not_false) (by rw [ne_eq, cc]; exact not_false)
        obtain ⟨f1, f2⟩ := fin K t 43 a eK kK hK (by omega) (chkE kn rc rt (.name s a w)) (by rw [chkE, hl]; simp only [hm]; rfl)
        have ff := ChkR.fin eh f2 hS f1
        rw [Bool.and_eq_true] at hm
        obtain ⟨rfl, hm⟩ := hm
        simp only [yw, ya, zt, yo, zb, zz, zw, yb, zn, yi, zc, zp, xy, y0, wv, zo, zf, ze, zd, List.set_cons_succ, List.set_cons_zero, O_mv, y3, xj, yy, yg, O_un, ye, List.map_cons, List.map_nil, zx, zk, v8, List.cons_append, List.nil_append, List.length_cons, List.length_nil, Nat.reduceAdd, Nat.reduceSub, Nat.zero_add, Bool.not_true, zm, yc, zy, za, zi, w8, xb, z7, xh, y8, zl, xc, g9, zq, zj, zg, zh, Nat.add_zero, List.getElem?_cons_zero, List.getElem?_cons_succ, Bool.bne_false, beq_self_eq_true, jp, eq_self, zs, yk, va, laid, zs, ← hh0, xo, xq, rbb, rq, ok_0 eh0, rb, jb, zhi, bj, qv, qp, nil1, gv, zfy, k8, lk, lr, hm, f, wb K t hK, wq]
        exact ⟨trivial, ff _⟩
  obtain ⟨v, h', r, rfl, g⟩ := this
  exact ⟨h', r, g⟩
end Go.Proofs.YtljdbheclfaloaaGreatDoor.AM
namespace Go.Proofs.YtljdbheclfaloaaGreatDoor.AM
open Go.RowKit
set_option linter.unusedSimpArgs false
set_option linter.unusedVariables false
set_option maxRecDepth 20000

theorem zuv (P : RP) (kn : Kn) (rc : List Bys) (a : Nat) (rt : Bool) : ze4 P kn rc rt (.zero a) := by
  intro hb h i0 i q km n rm S v e0 eh ch tr cl hS
  obtain ⟨b, rfl, hbS, hbo⟩ := tr
  have : ∃ v h', DF FF xn [pt q, pt b, .bool rt] h = some (v, h') ∧ (v = tup [] ∧ ChkR P i S (pt b) a h' (chkE kn rc rt (.zero a)) ∧ Kp P S h h') := by
    refine wz qi ?_
    obtain ⟨h0, hh0⟩ : ∃ h0, h0 = h ++ [AObj.cells [pt q] 0 false] := ⟨_, rfl⟩
    have eh0 : Rd P h0 i 0 0 0 := by rw [hh0]; exact eh.more _
    have k0 : Kp P S h h0 := by rw [hh0]; exact Kp.add _ _ _ _
    have hbb : h0[h.length]? = some (.cells [pt q] 0 false) := by rw [hh0]; simp
    have lh0 : h.length < h0.length := by rw [hh0]; simp
    have ch0 := ch.kp eh k0 cl.q cl.k cl.r
    have hn : h0[b]? = some (.cells (vh [48] [] a nilP nilP false) 0 false) := by rw [hh0]; exact y7 _ hbo
    have rb : ∀ j, Heap.read1 h0 ⟨b, j, some 0⟩ = (vh [48] [] a nilP nilP false)[j]? := fun j => xz hn
    have rq : ∀ j, Heap.read1 h0 ⟨q, j, some 0⟩ = ([pt P.r, .map (some km), rm, .int .i64 (n : Int)] : List Value)[j]? := fun j => xz ch0.cq
    have rbb : ∀ j, Heap.read1 h0 ⟨h.length, j, some 0⟩ = ([pt q] : List Value)[j]? := fun j => xz hbb
    have nil1 := fun rt => zfr (q := q) eh0 rt
    have f1 : ChkR P i S (pt b) a h0 (chkE kn rc rt (.zero a)) := ⟨⟨b, rfl, hbS, hn⟩, rfl, eh0⟩
    have ff := ChkR.fin eh k0 hS f1
    cases rt
    · simp only [yw, ya, zt, yo, zb, zw, yb, zn, yi, zc, y0, zo, zf, ze, zd, List.set_cons_succ, List.set_cons_zero, O_mv, y3, xj, yy, yg, O_un, ye, List.map_cons, List.map_nil, zx, zk, v8, List.cons_append, List.nil_append, List.length_cons, List.length_nil, Nat.reduceAdd, Nat.reduceSub, Nat.zero_add, Bool.not_true, zm, yc, zy, za, zi, w8, xb, z7, zq, zj, zg, zh, Nat.add_zero, List.getElem?_cons_zero, Bool.bne_false, jp, eq_self, zs, yk, va, laid, zs, ← hh0, xo, xq, rbb, rq, ok_0 eh0, rb, jb, qv, qp, nil1, gv, zre, zrm, zs6, zr1, zrk, zqz, zr4, zsr, zsi, zsx, znn, zoo, wq]
      exact ⟨trivial, ff _⟩
    · simp only [yw, ya, zt, yo, zb, zw, yb, zn, yi, zc, y0, wv, zo, zf, ze, zd, List.set_cons_succ, List.set_cons_zero, O_mv, y3, xj, yy, yg, O_un, ye, List.map_cons, List.map_nil, zx, zk, v8, List.cons_append, List.nil_append, List.length_cons, List.length_nil, Nat.reduceAdd, Nat.reduceSub, Nat.zero_add, Bool.not_true, zm, yc, zy, za, zi, w8, xb, z7, zq, zj, zg, zh, Nat.add_zero, List.getElem?_cons_zero, Bool.bne_false, jp, eq_self, zs, yk, va, laid, zs, ← hh0, xo, xq, rbb, rq, ok_0 eh0, rb, jb, qv, qp, nil1, gv, zre, zrm, zs6, zr1, zrk, zqz, zr4, zsr, zsi, zsx, znn, zoo, wq]
      exact ⟨trivial, ff _⟩
  obtain ⟨v, h', r, rfl, g⟩ := this
  exact ⟨h', r, g⟩
structure One (P : RP) (h h0 h1 : Heap) (i q km n b bx x c : Nat) (rm : Value) (kn : Kn) (rc : List Bys) (S : Nat → Prop) (op : Bys) (a : Nat) (rv : Value) (s t : Bool) (pl : Nat) : Prop where
  rd : Rd P h1 i 0 x c
  kp : Kp P S h h1
  cq : h1[q]? = some (.cells [pt P.r, .map (some km), rm, .int .i64 (n : Int)] 0 false)
  bb : h1[h.length]? = some (.cells [pt q] 0 false)
  nd : h1[b]? = some (.cells (vh op [] a (pt bx) rv s) 0 false)
  ch : ∃ op' w' l' r', h1[bx]? = some (.cells (vh op' w' pl l' r' t) 0 false)
def OneR (h1 : Heap) (S' : Nat → Prop) (bx pl x c : Nat) (t : Bool) : CR Ex → Prop
  | .ok e' => x = 0 ∧ c = 0 ∧ t = e'.set ∧ TreeP h1 S' (pt bx) e' ∧ e'.pl = pl
  | .bad x' c' => x ≠ 0 ∧ x = x' ∧ c = c' ∧ ∃ e', TreeP h1 S' (pt bx) e' ∧ e'.pl = pl
theorem zuo {P : RP} {hb h h0 h1 : Heap} {i0 i q km n b : Nat} {rm xv : Value} {kn : Kn} {rc : List Bys} {S S' : Nat → Prop} {op : Bys} {a : Nat} {rv : Value} {s : Bool} {e : Ex} {R : CR Ex} (e0 : Rd P hb i0 0 0 0) (eh : Rd P h i 0 0 0) (eh0 : Rd P h0 i 0 0 0) (k0 : Kp P S h h0) (hbb : h0[h.length]? = some (.cells [pt q] 0 false)) (ch0 : Ch P h0 q km rm n kn rc)
    (hn : h0[b]? = some (.cells (vh op [] a xv rv s) 0 false)) (cl : Cl P hb q km rm S) (hS : ∀ z, S z → z < h.length) (hbS : S b) (hs : ∀ y, S' y → S y ∧ y ≠ b) (r1 : ChkR P i S' xv e.pl h1 R) (k1 : Kp P S' h0 h1) :
    ∃ bx x c t, xv = pt bx ∧ One P h h0 h1 i q km n b bx x c rm kn rc S op a rv s t e.pl ∧ OneR h1 S' bx e.pl x c t R := by
  have nr : ∀ z, hb.length ≤ z → z ≠ P.r := fun z hz => by have := e0.lr; omega
  have kp : Kp P S h h1 := (k0.trans k1).weak fun z hz => hz.elim id fun h => (hs z h).1
  have ch1 := ch0.kp eh0 k1 (fun h => cl.q (hs _ h).1) (fun h => cl.k (hs _ h).1) (fun b hb h => cl.r b hb (hs _ h).1)
  have bb1 := k1.keep _ _ hbb (fun h => by have := hS _ (hs _ h).1; omega) (by have := eh.lr; omega)
  have nd1 := k1.keep _ _ hn (fun h => (hs _ h).2 rfl) (nr b (cl.lo b hbS))
  cases R with
  | ok e' =>
    obtain ⟨t, hp, e1⟩ := r1
    obtain ⟨bx, op', w', l', r', rfl, _, hbx⟩ := t.root
    rw [hp] at hbx
    exact ⟨bx, 0, 0, e'.set, rfl, ⟨e1, kp, ch1.cq, bb1, nd1, _, _, _, _, hbx⟩, rfl, rfl, rfl, t, hp⟩
  | bad x c =>
    obtain ⟨hx, ⟨e', t, hp⟩, e1⟩ := r1
    obtain ⟨bx, op', w', l', r', rfl, _, hbx⟩ := t.root
    rw [hp] at hbx
    exact ⟨bx, x, c, e'.set, rfl, ⟨e1, kp, ch1.cq, bb1, nd1, _, _, _, _, hbx⟩, hx, rfl, rfl, e', t, hp⟩
set_option maxHeartbeats 4000000 in
theorem zw6 (P : RP) (kn : Kn) (rc : List Bys) (s : Bool) (a : Nat) (e : Ex) (rt : Bool) (ih : ze4 P kn rc rt e) : ze4 P kn rc rt (.par s a e) := by
  intro hb h i0 i q km n rm S v e0 eh ch tr cl hS
  obtain ⟨b, S', xv, rfl, hbS, hbo, tx, hs⟩ := tr
  have : ∃ v h', DF FF xn [pt q, pt b, .bool rt] h = some (v, h') ∧ (v = tup [] ∧ ChkR P i S (pt b) (a) h' (chkE kn rc rt (.par s a e)) ∧ Kp P S h h') := by
    refine wz qi ?_
    obtain ⟨h0, hh0⟩ : ∃ h0, h0 = h ++ [AObj.cells [pt q] 0 false] := ⟨_, rfl⟩
    have eh0 : Rd P h0 i 0 0 0 := by rw [hh0]; exact eh.more _
    have k0 : Kp P S h h0 := by rw [hh0]; exact Kp.add _ _ _ _
    have hbb : h0[h.length]? = some (.cells [pt q] 0 false) := by rw [hh0]; simp
    have lh0 : h.length < h0.length := by rw [hh0]; simp
    have ch0 := ch.kp eh k0 cl.q cl.k cl.r
    have hn : h0[b]? = some (.cells (vh [40] [] a xv nilP s) 0 false) := by rw [hh0]; exact y7 _ hbo
    have rb : ∀ j, Heap.read1 h0 ⟨b, j, some 0⟩ = (vh [40] [] a xv nilP s)[j]? := fun j => xz hn
    have rq : ∀ j, Heap.read1 h0 ⟨q, j, some 0⟩ = ([pt P.r, .map (some km), rm, .int .i64 (n : Int)] : List Value)[j]? := fun j => xz ch0.cq
    have rbb : ∀ j, Heap.read1 h0 ⟨h.length, j, some 0⟩ = ([pt q] : List Value)[j]? := fun j => xz hbb
    obtain ⟨h1, q1, r1, k1⟩ := ih hb h0 i0 i q km n rm S' xv e0 eh0 ch0 (tx.keep fun c o hc ho => by rw [hh0]; exact y7 _ ho) (cl.weak fun z hz => (hs z hz).1) (fun z hz => by have := hS z (hs z hz).1; omega)
    obtain ⟨bx, x, c, t, rfl, O, hR⟩ := zuo e0 eh eh0 k0 hbb ch0 hn cl hS hbS hs r1 k1
    have eh1 := O.rd
    have nil1 := fun rt => zfr (q := q) eh1 rt
    have rb1 : ∀ j, Heap.read1 h1 ⟨b, j, some 0⟩ = (vh [40] [] (a) (pt bx) nilP s)[j]? := fun j => xz O.nd
    have rq1 : ∀ j, Heap.read1 h1 ⟨q, j, some 0⟩ = ([pt P.r, .map (some km), rm, .int .i64 (n : Int)] : List Value)[j]? := fun j => xz O.cq
    have rbb1 : ∀ j, Heap.read1 h1 ⟨h.length, j, some 0⟩ = ([pt q] : List Value)[j]? := fun j => xz O.bb
    obtain ⟨op', w', l', r', hx⟩ := O.ch
    cases hc : chkE kn rc rt e with
    | bad ec ea =>
      rw [hc] at hR
      obtain ⟨hx0, rfl, rfl, e', te, hp⟩ := hR
      have hRR : chkE kn rc rt (.par s a e) = .bad x c := by rw [chkE, hc]
      have f1 : ChkR P i S (pt b) (a) h1 (chkE kn rc rt (.par s a e)) := by rw [hRR]; exact ⟨hx0, ⟨.par s a e', ⟨b, S', pt bx, rfl, hbS, O.nd, te, hs⟩, rfl⟩, eh1⟩
      have ff := ChkR.fin eh O.kp hS f1
      cases rt
      · simp only [yw, ya, zt, xf, yo, zb, zz, zw, yb, zn, yi, zc, y0, zo, zf, ze, zd, List.set_cons_succ, List.set_cons_zero, O_mv, y3, xj, yy, yg, O_un, ye, List.map_cons, List.map_nil, zx, zk, v8, List.cons_append, List.nil_append, List.length_cons, List.length_nil, Nat.reduceAdd, Nat.reduceSub, Nat.zero_add, Bool.not_true, Bool.not_false, zm, yc, za, xa, w8, xb, z7, zq, zj, zg, zh, Nat.add_zero, List.getElem?_cons_zero, Bool.bne_false, jp, eq_self, zs, yk, va, laid, zs, ← hh0, xo, xq, rbb, rq, ok_0 eh0, rb, jb, qv, qp, q1, nil1, rb1, rq1, rbb1, zyc, fd eh1 hx0, zep]
        exact ⟨trivial, ff _⟩
      · simp only [yw, ya, zt, xf, yo, zb, zz, zw, yb, zn, yi, zc, y0, wv, zo, zf, ze, zd, List.set_cons_succ, List.set_cons_zero, O_mv, y3, xj, yg, O_un, ye, List.map_cons, List.map_nil, zx, zk, v8, List.cons_append, List.nil_append, List.length_cons, List.length_nil, Nat.reduceAdd, Nat.reduceSub, Nat.zero_add, Bool.not_true, Bool.not_false, zm, yc, za, xa, w8, xb, z7, zq, zj, zg, zh, Nat.add_zero, List.getElem?_cons_zero, Bool.bne_false, jp, eq_self, zs, yk, laid, zs, ← hh0, xo, xq, rbb, rq, ok_0 eh0, rb, qv, qp, q1, nil1, rb1, rq1, rbb1, fd eh1 hx0, zep]
        exact ⟨trivial, ff _⟩
    | ok e' =>
      rw [hc] at hR
      obtain ⟨rfl, rfl, rfl, te, hp⟩ := hR
      have hRR : chkE kn rc rt (.par s a e) = .ok (.par e'.set a e') := by rw [chkE, hc]
      have rx : Heap.read1 h1 ⟨bx, 5, some 0⟩ = some (.bool e'.set) := xz hx
      have lb := (List.getElem?_eq_some_iff.1 O.nd).1
      have wb : Heap.write1 h1 ⟨b, 5, some 0⟩ (.bool e'.set) = some (h1.set b (.cells (vh [40] [] a (pt bx) nilP e'.set) 0 false)) := by rw [po O.nd (by simp [vh]), ziv]
      have f1 : ChkR P i S (pt b) a (h1.set b (.cells (vh [40] [] a (pt bx) nilP e'.set) 0 false)) (chkE kn rc rt (.par s a e)) := by
        rw [hRR]
        exact ⟨⟨b, S', pt bx, rfl, hbS, List.getElem?_set_self lb, te.keep fun z o hz ho => by rw [List.getElem?_set_ne (Ne.symm (hs z hz).2)]; exact ho, hs⟩, rfl, e0.node eh1 (cl.lo b hbS) _⟩
      have ff := ChkR.fin eh (O.kp.set hbS _) hS f1
      cases rt
      · simp only [yw, ya, zt, yo, zb, zz, zw, yb, zn, yi, zc, zp, y0, zo, zf, ze, zd, List.set_cons_succ, List.set_cons_zero, O_mv, y3, xj, yy, yg, O_un, ye, List.map_cons, List.map_nil, zx, zk, v8, List.cons_append, List.nil_append, List.length_cons, List.length_nil, Nat.reduceAdd, Nat.reduceSub, Nat.zero_add, Bool.not_true, zm, yc, zy, za, zi, w8, xb, z7, zl, xc, g9, zq, zj, zg, zh, Nat.add_zero, List.getElem?_cons_zero, Bool.bne_false, beq_self_eq_true, jp, eq_self, zs, yk, va, laid, zs, ← hh0, xo, xq, rbb, rq, ok_0 eh0, rb, jb, qv, qp, q1, nil1, rb1, rq1, rbb1, gv, zxa, ych, yc9, zyc, ycr, ycl, yc8, ok_0 eh1, rx, wb, wq]
        exact ⟨trivial, ff _⟩
      · simp only [yw, ya, zt, yo, zb, zz, zw, yb, zn, yi, zc, zp, y0, wv, zo, zf, ze, zd, List.set_cons_succ, List.set_cons_zero, O_mv, y3, xj, yy, yg, O_un, ye, List.map_cons, List.map_nil, zx, zk, v8, List.cons_append, List.nil_append, List.length_cons, List.length_nil, Nat.reduceAdd, Nat.reduceSub, Nat.zero_add, Bool.not_true, zm, yc, zy, za, zi, w8, xb, z7, zl, xc, g9, zq, zj, zg, zh, Nat.add_zero, List.getElem?_cons_zero, Bool.bne_false, beq_self_eq_true, jp, eq_self, zs, yk, va, laid, zs, ← hh0, xo, xq, rbb, rq, ok_0 eh0, rb, jb, qv, qp, q1, nil1, rb1, rq1, rbb1, gv, zxa, ych, yc9, zyc, ycr, ycl, yc8, ok_0 eh1, rx, wb, wq]
        exact ⟨trivial, ff _⟩
  obtain ⟨v, h', r, rfl, g⟩ := this
  exact ⟨h', r, g⟩
set_option maxHeartbeats 4000000 in
theorem zwq (P : RP) (kn : Kn) (rc : List Bys) (a : Nat) (e : Ex) (rt : Bool) (ih : ze4 P kn rc rt e) : ze4 P kn rc rt (.box a e) := by
  intro hb h i0 i q km n rm S v e0 eh ch tr cl hS
  obtain ⟨b, S', xv, rfl, hbS, hbo, tx, hs⟩ := tr
  have : ∃ v h', DF FF xn [pt q, pt b, .bool rt] h = some (v, h') ∧ (v = tup [] ∧ ChkR P i S (pt b) (a) h' (chkE kn rc rt (.box a e)) ∧ Kp P S h h') := by
    refine wz qi ?_
    obtain ⟨h0, hh0⟩ : ∃ h0, h0 = h ++ [AObj.cells [pt q] 0 false] := ⟨_, rfl⟩
    have eh0 : Rd P h0 i 0 0 0 := by rw [hh0]; exact eh.more _
    have k0 : Kp P S h h0 := by rw [hh0]; exact Kp.add _ _ _ _
    have hbb : h0[h.length]? = some (.cells [pt q] 0 false) := by rw [hh0]; simp
    have lh0 : h.length < h0.length := by rw [hh0]; simp
    have ch0 := ch.kp eh k0 cl.q cl.k cl.r
    have hn : h0[b]? = some (.cells (vh [91] [] a xv nilP false) 0 false) := by rw [hh0]; exact y7 _ hbo
    have rb : ∀ j, Heap.read1 h0 ⟨b, j, some 0⟩ = (vh [91] [] a xv nilP false)[j]? := fun j => xz hn
    have rq : ∀ j, Heap.read1 h0 ⟨q, j, some 0⟩ = ([pt P.r, .map (some km), rm, .int .i64 (n : Int)] : List Value)[j]? := fun j => xz ch0.cq
    have rbb : ∀ j, Heap.read1 h0 ⟨h.length, j, some 0⟩ = ([pt q] : List Value)[j]? := fun j => xz hbb
    obtain ⟨h1, q1, r1, k1⟩ := ih hb h0 i0 i q km n rm S' xv e0 eh0 ch0 (tx.keep fun c o hc ho => by rw [hh0]; exact y7 _ ho) (cl.weak fun z hz => (hs z hz).1) (fun z hz => by have := hS z (hs z hz).1; omega)
    obtain ⟨bx, x, c, t, rfl, O, hR⟩ := zuo e0 eh eh0 k0 hbb ch0 hn cl hS hbS hs r1 k1
    have eh1 := O.rd
    have nil1 := fun rt => zfr (q := q) eh1 rt
    have rb1 : ∀ j, Heap.read1 h1 ⟨b, j, some 0⟩ = (vh [91] [] (a) (pt bx) nilP false)[j]? := fun j => xz O.nd
    have rq1 : ∀ j, Heap.read1 h1 ⟨q, j, some 0⟩ = ([pt P.r, .map (some km), rm, .int .i64 (n : Int)] : List Value)[j]? := fun j => xz O.cq
    have rbb1 : ∀ j, Heap.read1 h1 ⟨h.length, j, some 0⟩ = ([pt q] : List Value)[j]? := fun j => xz O.bb
    obtain ⟨op', w', l', r', hx⟩ := O.ch
    cases hc : chkE kn rc rt e with
    | bad ec ea =>
      rw [hc] at hR
      obtain ⟨hx0, rfl, rfl, e', te, hp⟩ := hR
      have hRR : chkE kn rc rt (.box a e) = .bad x c := by rw [chkE, hc]
      have f1 : ChkR P i S (pt b) (a) h1 (chkE kn rc rt (.box a e)) := by rw [hRR]; exact ⟨hx0, ⟨.box a e', ⟨b, S', pt bx, rfl, hbS, O.nd, te, hs⟩, rfl⟩, eh1⟩
      have ff := ChkR.fin eh O.kp hS f1
      cases rt
      · simp only [yw, ya, zt, xf, yo, zb, zz, zw, yb, zn, yi, zc, y0, zo, zf, ze, zd, List.set_cons_succ, List.set_cons_zero, O_mv, y3, xj, yy, yg, O_un, ye, List.map_cons, List.map_nil, zx, zk, v8, List.cons_append, List.nil_append, List.length_cons, List.length_nil, Nat.reduceAdd, Nat.reduceSub, Nat.zero_add, Bool.not_true, Bool.not_false, zm, yc, za, xa, w8, xb, z7, zq, zj, zg, zh, Nat.add_zero, List.getElem?_cons_zero, Bool.bne_false, jp, eq_self, zs, yk, va, laid, zs, ← hh0, xo, xq, rbb, rq, ok_0 eh0, rb, jb, qv, qp, q1, nil1, rb1, rq1, rbb1, zmf, fd eh1 hx0, zep]
        exact ⟨trivial, ff _⟩
      · simp only [yw, ya, zt, xf, yo, zb, zz, zw, yb, zn, yi, zc, y0, wv, zo, zf, ze, zd, List.set_cons_succ, List.set_cons_zero, O_mv, y3, xj, yg, O_un, ye, List.map_cons, List.map_nil, zx, zk, v8, List.cons_append, List.nil_append, List.length_cons, List.length_nil, Nat.reduceAdd, Nat.reduceSub, Nat.zero_add, Bool.not_true, Bool.not_false, zm, yc, za, xa, w8, xb, z7, zq, zj, zg, zh, Nat.add_zero, List.getElem?_cons_zero, Bool.bne_false, jp, eq_self, zs, yk, laid, zs, ← hh0, xo, xq, rbb, rq, ok_0 eh0, rb, qv, qp, q1, nil1, rb1, rq1, rbb1, fd eh1 hx0, zep]
        exact ⟨trivial, ff _⟩
    | ok e' =>
      rw [hc] at hR
      obtain ⟨rfl, rfl, rfl, te, hp⟩ := hR
      cases hst : (e'.set == true)
      · have hRR : chkE kn rc rt (.box a e) = .bad 41 e.pl := by rw [chkE, hc]; cases h' : e'.set <;> rw [h'] at hst <;> simp_all
        obtain ⟨h2, qm, e2, m2, c2⟩ := znr eh1 O.cq O.bb hx hst
        have k2 := m2.kp fun o ho => by rw [c2]; exact ho
        have nd2 := k2.keep _ _ O.nd id (by have := cl.lo b hbS; have := e0.lr; omega)
        have f1 : ChkR P i S (pt b) (a) h2 (chkE kn rc rt (.box a e)) := by
          rw [hRR]
          exact ⟨by omega, ⟨.box a e', ⟨b, S', pt bx, rfl, hbS, nd2, te.keep fun z o hz ho => k2.keep z o ho id (by have := cl.lo z (hs z hz).1; have := e0.lr; omega), hs⟩, rfl⟩, e2⟩
        have ff := ChkR.fin eh ((O.kp.trans k2).weak fun z hz => hz.elim id False.elim) hS f1
        cases rt
        · simp only [yw, ya, zt, yo, zb, zz, zw, yb, zn, yi, zc, y0, zo, zf, ze, zd, List.set_cons_succ, List.set_cons_zero, O_mv, y3, xj, yy, yg, O_un, ye, List.map_cons, List.map_nil, zx, zk, v8, List.cons_append, List.nil_append, List.length_cons, List.length_nil, Nat.reduceAdd, Nat.reduceSub, Nat.zero_add, Bool.not_true, zm, yc, zy, za, zi, w8, xb, z7, zq, zj, zg, zh, Nat.add_zero, List.getElem?_cons_zero, Bool.bne_false, beq_self_eq_true, jp, eq_self, zs, yk, va, laid, zs, ← hh0, xo, xq, rbb, rq, ok_0 eh0, rb, jb, qv, qp, q1, nil1, rb1, rq1, rbb1, gv, bt, je, zqp, zqx, zpt, zmf, zpo, zo9, ok_0 eh1, qm, wq]
          exact ⟨trivial, ff _⟩
        · simp only [yw, ya, zt, yo, zb, zz, zw, yb, zn, yi, zc, y0, wv, zo, zf, ze, zd, List.set_cons_succ, List.set_cons_zero, O_mv, y3, xj, yy, yg, O_un, ye, List.map_cons, List.map_nil, zx, zk, v8, List.cons_append, List.nil_append, List.length_cons, List.length_nil, Nat.reduceAdd, Nat.reduceSub, Nat.zero_add, Bool.not_true, zm, yc, zy, za, zi, w8, xb, z7, zq, zj, zg, zh, Nat.add_zero, List.getElem?_cons_zero, Bool.bne_false, beq_self_eq_true, jp, eq_self, zs, yk, va, laid, zs, ← hh0, xo, xq, rbb, rq, ok_0 eh0, rb, jb, qv, qp, q1, nil1, rb1, rq1, rbb1, gv, bt, je, zqp, zqx, zpt, zmf, zpo, zo9, ok_0 eh1, qm, wq]
          exact ⟨trivial, ff _⟩
      · have hRR : chkE kn rc rt (.box a e) = .ok (.box a e') := by rw [chkE, hc]; cases h' : e'.set <;> rw [h'] at hst <;> simp_all
        have qm := zow (bb := h.length) hx
        rw [eq_of_beq hst] at qm
        have f1 : ChkR P i S (pt b) (a) h1 (chkE kn rc rt (.box a e)) := by
          rw [hRR]
          exact ⟨⟨b, S', pt bx, rfl, hbS, O.nd, te, hs⟩, rfl, eh1⟩
        have ff := ChkR.fin eh O.kp hS f1
        cases rt
        · simp only [yw, ya, zt, yo, zb, zz, zw, yb, zn, yi, zc, y0, zo, zf, ze, zd, List.set_cons_succ, List.set_cons_zero, O_mv, y3, xj, yy, yg, O_un, ye, List.map_cons, List.map_nil, zx, zk, v8, List.cons_append, List.nil_append, List.length_cons, List.length_nil, Nat.reduceAdd, Nat.reduceSub, Nat.zero_add, Bool.not_true, zm, yc, zy, za, zi, w8, xb, z7, zq, zj, zg, zh, Nat.add_zero, List.getElem?_cons_zero, Bool.bne_false, beq_self_eq_true, jp, eq_self, zs, yk, va, laid, zs, ← hh0, xo, xq, rbb, rq, ok_0 eh0, rb, jb, qv, qp, q1, nil1, rb1, rq1, rbb1, gv, bt, je, zqp, zqx, zpt, zmf, zpo, zo9, ok_0 eh1, qm, wq]
          exact ⟨trivial, ff _⟩
        · simp only [yw, ya, zt, yo, zb, zz, zw, yb, zn, yi, zc, y0, wv, zo, zf, ze, zd, List.set_cons_succ, List.set_cons_zero, O_mv, y3, xj, yy, yg, O_un, ye, List.map_cons, List.map_nil, zx, zk, v8, List.cons_append, List.nil_append, List.length_cons, List.length_nil, Nat.reduceAdd, Nat.reduceSub, Nat.zero_add, Bool.not_true, zm, yc, zy, za, zi, w8, xb, z7, zq, zj, zg, zh, Nat.add_zero, List.getElem?_cons_zero, Bool.bne_false, beq_self_eq_true, jp, eq_self, zs, yk, va, laid, zs, ← hh0, xo, xq, rbb, rq, ok_0 eh0, rb, jb, qv, qp, q1, nil1, rb1, rq1, rbb1, gv, bt, je, zqp, zqx, zpt, zmf, zpo, zo9, ok_0 eh1, qm, wq]
          exact ⟨trivial, ff _⟩
  obtain ⟨v, h', r, rfl, g⟩ := this
  exact ⟨h', r, g⟩
set_option maxHeartbeats 4000000 in
theorem yae (P : RP) (kn : Kn) (rc : List Bys) (op : Op1) (e : Ex) (rt : Bool) (ih : ze4 P kn rc rt e) : ze4 P kn rc rt (.un op e) := by
  intro hb h i0 i q km n rm S v e0 eh ch tr cl hS
  obtain ⟨b, S', xv, rfl, hbS, hbo, tx, hs⟩ := tr
  have : ∃ v h', DF FF xn [pt q, pt b, .bool rt] h = some (v, h') ∧ (v = tup [] ∧ ChkR P i S (pt b) (e.pl) h' (chkE kn rc rt (.un op e)) ∧ Kp P S h h') := by
    refine wz qi ?_
    obtain ⟨h0, hh0⟩ : ∃ h0, h0 = h ++ [AObj.cells [pt q] 0 false] := ⟨_, rfl⟩
    have eh0 : Rd P h0 i 0 0 0 := by rw [hh0]; exact eh.more _
    have k0 : Kp P S h h0 := by rw [hh0]; exact Kp.add _ _ _ _
    have hbb : h0[h.length]? = some (.cells [pt q] 0 false) := by rw [hh0]; simp
    have lh0 : h.length < h0.length := by rw [hh0]; simp
    have ch0 := ch.kp eh k0 cl.q cl.k cl.r
    have hn : h0[b]? = some (.cells (vh (op1S op) [] e.pl xv nilP false) 0 false) := by rw [hh0]; exact y7 _ hbo
    have rb : ∀ j, Heap.read1 h0 ⟨b, j, some 0⟩ = (vh (op1S op) [] e.pl xv nilP false)[j]? := fun j => xz hn
    have rq : ∀ j, Heap.read1 h0 ⟨q, j, some 0⟩ = ([pt P.r, .map (some km), rm, .int .i64 (n : Int)] : List Value)[j]? := fun j => xz ch0.cq
    have rbb : ∀ j, Heap.read1 h0 ⟨h.length, j, some 0⟩ = ([pt q] : List Value)[j]? := fun j => xz hbb
    obtain ⟨h1, q1, r1, k1⟩ := ih hb h0 i0 i q km n rm S' xv e0 eh0 ch0 (tx.keep fun c o hc ho => by rw [hh0]; exact y7 _ ho) (cl.weak fun z hz => (hs z hz).1) (fun z hz => by have := hS z (hs z hz).1; omega)
    obtain ⟨bx, x, c, t, rfl, O, hR⟩ := zuo e0 eh eh0 k0 hbb ch0 hn cl hS hbS hs r1 k1
    have eh1 := O.rd
    have nil1 := fun rt => zfr (q := q) eh1 rt
    have rb1 : ∀ j, Heap.read1 h1 ⟨b, j, some 0⟩ = (vh (op1S op) [] (e.pl) (pt bx) nilP false)[j]? := fun j => xz O.nd
    have rq1 : ∀ j, Heap.read1 h1 ⟨q, j, some 0⟩ = ([pt P.r, .map (some km), rm, .int .i64 (n : Int)] : List Value)[j]? := fun j => xz O.cq
    have rbb1 : ∀ j, Heap.read1 h1 ⟨h.length, j, some 0⟩ = ([pt q] : List Value)[j]? := fun j => xz O.bb
    obtain ⟨op', w', l', r', hx⟩ := O.ch
    cases hc : chkE kn rc rt e with
    | bad ec ea =>
      rw [hc] at hR
      obtain ⟨hx0, rfl, rfl, e', te, hp⟩ := hR
      have hRR : chkE kn rc rt (.un op e) = .bad x c := by rw [chkE, hc]
      have f1 : ChkR P i S (pt b) (e.pl) h1 (chkE kn rc rt (.un op e)) := by rw [hRR]; exact ⟨hx0, ⟨.un op e', ⟨b, S', pt bx, rfl, hbS, by rw [hp]; exact O.nd, te, hs⟩, hp⟩, eh1⟩
      have ff := ChkR.fin eh O.kp hS f1
      cases rt <;> cases op
      all_goals
        simp only [yw, ya, zt, xf, yo, zb, zz, zw, yb, zn, yi, zc, y0, wv, zo, zf, ze, zd, List.set_cons_succ, List.set_cons_zero, O_mv, y3, xj, yy, yg, O_un, ye, List.map_cons, List.map_nil, zx, zk, v8, List.cons_append, List.nil_append, List.length_cons, List.length_nil, Nat.reduceAdd, Nat.reduceSub, Nat.zero_add, Bool.not_true, Bool.not_false, zm, yc, za, xa, w8, xb, z7, zq, zj, zg, zh, Nat.add_zero, List.getElem?_cons_zero, Bool.bne_false, jp, eq_self, zs, yk, va, laid, zs, ← hh0, xo, xq, rbb, rq, ok_0 eh0, rb, jb, qv, qp, q1, nil1, rb1, rq1, rbb1, op1S, ztj, zs8, zoi, znx, fd eh1 hx0, zep]
        exact ⟨trivial, ff _⟩
    | ok e' =>
      rw [hc] at hR
      obtain ⟨rfl, rfl, rfl, te, hp⟩ := hR
      cases hst : (e'.set == false)
      · have hRR : chkE kn rc rt (.un op e) = .bad 41 e.pl := by rw [chkE, hc]; cases h' : e'.set <;> rw [h'] at hst <;> simp_all
        obtain ⟨h2, qm, e2, m2, c2⟩ := znr eh1 O.cq O.bb hx hst
        have k2 := m2.kp fun o ho => by rw [c2]; exact ho
        have nd2 := k2.keep _ _ O.nd id (by have := cl.lo b hbS; have := e0.lr; omega)
        have f1 : ChkR P i S (pt b) (e.pl) h2 (chkE kn rc rt (.un op e)) := by
          rw [hRR]
          exact ⟨by omega, ⟨.un op e', ⟨b, S', pt bx, rfl, hbS, by rw [hp]; exact nd2, te.keep fun z o hz ho => k2.keep z o ho id (by have := cl.lo z (hs z hz).1; have := e0.lr; omega), hs⟩, hp⟩, e2⟩
        have ff := ChkR.fin eh ((O.kp.trans k2).weak fun z hz => hz.elim id False.elim) hS f1
        cases rt <;> cases op
        all_goals
          simp only [yw, ya, zt, yo, zb, zz, zw, yb, zn, yi, zc, y0, wv, zo, zf, ze, zd, List.set_cons_succ, List.set_cons_zero, O_mv, y3, xj, yy, yg, O_un, ye, List.map_cons, List.map_nil, zx, zk, v8, List.cons_append, List.nil_append, List.length_cons, List.length_nil, Nat.reduceAdd, Nat.reduceSub, Nat.zero_add, Bool.not_true, zm, yc, zy, za, zi, w8, xb, z7, zq, zj, zg, zh, Nat.add_zero, List.getElem?_cons_zero, Bool.bne_false, beq_self_eq_true, jp, eq_self, zs, yk, va, laid, zs, ← hh0, xo, xq, rbb, rq, ok_0 eh0, rb, jb, qv, qp, q1, nil1, rb1, rq1, rbb1, gv, bt, je, op1S, zxl, zzw, zwz, ztj, zwe, zxz, zy5, zw8, zzg, zwl, zyh, zs8, zyt, zxe, zyr, zw4, zxk, zq0, zrx, zso, zoi, zs0, zrl, zs2, zsy, zr0, zs1, zs5, zr5, zq9, znx, zrj, zsv, zrg, zrd, zst, zsg, zoa, ok_0 eh1, qm, wq]
          exact ⟨trivial, ff _⟩
      · have hRR : chkE kn rc rt (.un op e) = .ok (.un op e') := by rw [chkE, hc]; cases h' : e'.set <;> rw [h'] at hst <;> simp_all
        have qm := zow (bb := h.length) hx
        rw [eq_of_beq hst] at qm
        have f1 : ChkR P i S (pt b) (e.pl) h1 (chkE kn rc rt (.un op e)) := by
          rw [hRR]
          exact ⟨⟨b, S', pt bx, rfl, hbS, by rw [hp]; exact O.nd, te, hs⟩, hp, eh1⟩
        have ff := ChkR.fin eh O.kp hS f1
        cases rt <;> cases op
        all_goals
          simp only [yw, ya, zt, yo, zb, zz, zw, yb, zn, yi, zc, y0, wv, zo, zf, ze, zd, List.set_cons_succ, List.set_cons_zero, O_mv, y3, xj, yy, yg, O_un, ye, List.map_cons, List.map_nil, zx, zk, v8, List.cons_append, List.nil_append, List.length_cons, List.length_nil, Nat.reduceAdd, Nat.reduceSub, Nat.zero_add, Bool.not_true, zm, yc, zy, za, zi, w8, xb, z7, zq, zj, zg, zh, Nat.add_zero, List.getElem?_cons_zero, Bool.bne_false, beq_self_eq_true, jp, eq_self, zs, yk, va, laid, zs, ← hh0, xo, xq, rbb, rq, ok_0 eh0, rb, jb, qv, qp, q1, nil1, rb1, rq1, rbb1, gv, bt, je, op1S, zxl, zzw, zwz, ztj, zwe, zxz, zy5, zw8, zzg, zwl, zyh, zs8, zyt, zxe, zyr, zw4, zxk, zq0, zrx, zso, zoi, zs0, zrl, zs2, zsy, zr0, zs1, zs5, zr5, zq9, znx, zrj, zsv, zrg, zrd, zst, zsg, zoa, ok_0 eh1, qm, wq]
          exact ⟨trivial, ff _⟩
  obtain ⟨v, h', r, rfl, g⟩ := this
  exact ⟨h', r, g⟩
end Go.Proofs.YtljdbheclfaloaaGreatDoor.AM
namespace Go.Proofs.YtljdbheclfaloaaGreatDoor.AM
open Go.RowKit
set_option linter.unusedSimpArgs false
set_option linter.unusedVariables false
set_option maxRecDepth 20000

structure Two (P : RP) (h h2 : Heap) (i q km n b bx by_ x c : Nat) (rm : Value) (S : Nat → Prop) (op : Bys) (a pl pr : Nat) (s tl t : Bool) : Prop where
  rd : Rd P h2 i 0 x c
  kp : Kp P S h h2
  cq : h2[q]? = some (.cells [pt P.r, .map (some km), rm, .int .i64 (n : Int)] 0 false)
  bb : h2[h.length]? = some (.cells [pt q] 0 false)
  nd : h2[b]? = some (.cells (vh op [] a (pt bx) (pt by_) s) 0 false)
  cl : ∃ op' w' l' r', h2[bx]? = some (.cells (vh op' w' pl l' r' tl) 0 false)
  cr : ∃ op' w' l' r', h2[by_]? = some (.cells (vh op' w' pr l' r' t) 0 false)
theorem ygb {P : RP} {hb h h0 h1 h2 : Heap} {i0 i q km n b bx : Nat} {rm yv : Value} {kn : Kn} {rc : List Bys} {S S1 S2 : Nat → Prop} {op : Bys} {a pl : Nat} {s : Bool} {l' r : Ex} {R : CR Ex} (e0 : Rd P hb i0 0 0 0) (eh : Rd P h i 0 0 0)
    (O : One P h h0 h1 i q km n b bx 0 0 rm kn rc S op a yv s l'.set pl) (tl : TreeP h1 S1 (pt bx) l') (hbx : l'.pl = pl) (cl : Cl P hb q km rm S) (hS : ∀ z, S z → z < h.length) (hbS : S b) (hs1 : ∀ z, S1 z → S z ∧ z ≠ b ∧ ¬ S2 z) (hs : ∀ y, S2 y → S y ∧ y ≠ b) (r1 : ChkR P i S2 yv r.pl h2 R) (k1 : Kp P S2 h1 h2) :
    ∃ by_ x c t, yv = pt by_ ∧ Two P h h2 i q km n b bx by_ x c rm S op a pl r.pl s l'.set t ∧ OneR h2 S2 by_ r.pl x c t R ∧ TreeP h2 S1 (pt bx) l' := by
  have nr : ∀ z, hb.length ≤ z → z ≠ P.r := fun z hz => by have := e0.lr; omega
  have kp : Kp P S h h2 := (O.kp.trans k1).weak fun z hz => hz.elim id fun h => (hs z h).1
  have nq : q ≠ P.r := by rintro rfl; have := O.rd.hr.symm.trans O.cq; simp at this
  have cq1 := k1.keep _ _ O.cq (fun h => cl.q (hs _ h).1) nq
  have bb1 := k1.keep _ _ O.bb (fun h => by have := hS _ (hs _ h).1; omega) (by have := eh.lr; omega)
  have nd1 := k1.keep _ _ O.nd (fun h => (hs _ h).2 rfl) (nr b (cl.lo b hbS))
  have tl2 : TreeP h2 S1 (pt bx) l' := tl.keep fun z o hz ho => k1.keep z o ho (hs1 z hz).2.2 (nr z (cl.lo z (hs1 z hz).1))
  obtain ⟨b', op1, w1, l1, r1', hpb, _, hbx2⟩ := tl2.root
  have hpb : bx = b' := by simpa using hpb
  subst hpb
  rw [hbx] at hbx2
  cases R with
  | ok e' =>
    obtain ⟨t, hp, e1⟩ := r1
    obtain ⟨by_, op', w', l'', r', rfl, _, hby⟩ := t.root
    rw [hp] at hby
    exact ⟨by_, 0, 0, e'.set, rfl, ⟨e1, kp, cq1, bb1, nd1, ⟨_, _, _, _, hbx2⟩, _, _, _, _, hby⟩, ⟨rfl, rfl, rfl, t, hp⟩, tl2⟩
  | bad x c =>
    obtain ⟨hx, ⟨e', t, hp⟩, e1⟩ := r1
    obtain ⟨by_, op', w', l'', r', rfl, _, hby⟩ := t.root
    rw [hp] at hby
    exact ⟨by_, x, c, e'.set, rfl, ⟨e1, kp, cq1, bb1, nd1, ⟨_, _, _, _, hbx2⟩, _, _, _, _, hby⟩, ⟨hx, rfl, rfl, e', t, hp⟩, tl2⟩
theorem zn2 {P : RP} {h : Heap} {i q bb : Nat} {km rm nn : Value} (e : Rd P h i 0 0 0) (hq : h[q]? = some (.cells [pt P.r, km, rm, nn] 0 false)) (hbb : h[bb]? = some (.cells [pt q] 0 false)) {b : Nat} {op w : Bys} {p : Nat} {l r : Value} {s : Bool} (t : Bool) (hb : h[b]? = some (.cells (vh op w p l r s) 0 false)) :
    ∃ h' x c, DF FF wk [pt b, .bool t, pt bb] h = some (tup [], h') ∧ Rd P h' i 0 x c ∧ Kp P (fun _ => False) h h' ∧ ((s == t) = true ∧ x = 0 ∧ c = 0 ∨ (s == t) = false ∧ x = 41 ∧ c = p) := by
  cases hst : (s == t)
  · obtain ⟨h2, qm, e2, m2, c2⟩ := znr e hq hbb hb hst
    exact ⟨h2, 41, p, qm, e2, m2.kp fun o ho => by rw [c2]; exact ho, .inr ⟨rfl, rfl, rfl⟩⟩
  · have qm := zow (bb := bb) hb
    rw [eq_of_beq hst] at qm
    exact ⟨h, 0, 0, qm, e, Kp.refl _ _ _, .inl ⟨rfl, rfl, rfl⟩⟩
set_option maxHeartbeats 8000000 in
theorem zxt (P : RP) (kn : Kn) (rc : List Bys) (s : Bool) (o : Op2) (l r : Ex) (rt : Bool) (ihl : ze4 P kn rc rt l) (ihr : ze4 P kn rc (rt || o == .minus) r) : ze4 P kn rc rt (.bin s o l r) := by
  intro hb h i0 i q km n rm S v e0 eh ch tr cl hS
  obtain ⟨b, S1, S2, xv, yv, rfl, hbS, hbo, tx, ty, hs1, hs2⟩ := tr
  have : ∃ v h', DF FF xn [pt q, pt b, .bool rt] h = some (v, h') ∧ (v = tup [] ∧ ChkR P i S (pt b) l.pl h' (chkE kn rc rt (.bin s o l r)) ∧ Kp P S h h') := by
    refine wz qi ?_
    obtain ⟨h0, hh0⟩ : ∃ h0, h0 = h ++ [AObj.cells [pt q] 0 false] := ⟨_, rfl⟩
    have eh0 : Rd P h0 i 0 0 0 := by rw [hh0]; exact eh.more _
    have k0 : Kp P S h h0 := by rw [hh0]; exact Kp.add _ _ _ _
    have hbb : h0[h.length]? = some (.cells [pt q] 0 false) := by rw [hh0]; simp
    have lh0 : h.length < h0.length := by rw [hh0]; simp
    have ch0 := ch.kp eh k0 cl.q cl.k cl.r
    have hn : h0[b]? = some (.cells (vh (op2S o) [] l.pl xv yv s) 0 false) := by rw [hh0]; exact y7 _ hbo
    have rb : ∀ j, Heap.read1 h0 ⟨b, j, some 0⟩ = (vh (op2S o) [] l.pl xv yv s)[j]? := fun j => xz hn
    have rq : ∀ j, Heap.read1 h0 ⟨q, j, some 0⟩ = ([pt P.r, .map (some km), rm, .int .i64 (n : Int)] : List Value)[j]? := fun j => xz ch0.cq
    have rbb : ∀ j, Heap.read1 h0 ⟨h.length, j, some 0⟩ = ([pt q] : List Value)[j]? := fun j => xz hbb
    have nr : ∀ z, hb.length ≤ z → z ≠ P.r := fun z hz => by have := e0.lr; omega
    have ty0 : TreeP h0 S2 yv r := ty.keep fun c o hc ho => by rw [hh0]; exact y7 _ ho
    obtain ⟨h1, q1, r1, k1⟩ := ihl hb h0 i0 i q km n rm S1 xv e0 eh0 ch0 (tx.keep fun c o hc ho => by rw [hh0]; exact y7 _ ho) (cl.weak fun z hz => (hs1 z hz).1) (fun z hz => by have := hS z (hs1 z hz).1; omega)
    have ty1 : TreeP h1 S2 yv r := ty0.keep fun z o hz ho => k1.keep z o ho (fun h => (hs1 z h).2.2 hz) (nr z (cl.lo z (hs2 z hz).1))
    obtain ⟨bx, x, c, t, rfl, O, hR⟩ := zuo e0 eh eh0 k0 hbb ch0 hn cl hS hbS (fun z hz => ⟨(hs1 z hz).1, (hs1 z hz).2.1⟩) r1 k1
    have eh1 := O.rd
    have rb1 : ∀ j, Heap.read1 h1 ⟨b, j, some 0⟩ = (vh (op2S o) [] l.pl (pt bx) yv s)[j]? := fun j => xz O.nd
    have rq1 : ∀ j, Heap.read1 h1 ⟨q, j, some 0⟩ = ([pt P.r, .map (some km), rm, .int .i64 (n : Int)] : List Value)[j]? := fun j => xz O.cq
    have rbb1 : ∀ j, Heap.read1 h1 ⟨h.length, j, some 0⟩ = ([pt q] : List Value)[j]? := fun j => xz O.bb
    obtain ⟨by_, _, _, _, _, rfl, _, _⟩ := ty1.root
    cases hc : chkE kn rc rt l with
    | bad ec ea =>
      rw [hc] at hR
      obtain ⟨hx0, rfl, rfl, l', tl, hp⟩ := hR
      have hRR : chkE kn rc rt (.bin s o l r) = .bad x c := by rw [chkE, hc]
      have qn := fun rt => zt6 eh1 hx0 O.cq by_ rt
      have f1 : ChkR P i S (pt b) l.pl h1 (chkE kn rc rt (.bin s o l r)) := by
        rw [hRR]
        exact ⟨hx0, ⟨.bin s o l' r, ⟨b, S1, S2, pt bx, pt by_, rfl, hbS, by rw [hp]; exact O.nd, tl, ty1, hs1, hs2⟩, hp⟩, eh1⟩
      have ff := ChkR.fin eh O.kp hS f1
      cases rt <;> cases o
      all_goals
        simp only [yw, ya, zt, xf, yo, zb, zz, zw, yb, zn, yi, zc, y0, wv, zo, zf, ze, zd, List.set_cons_succ, List.set_cons_zero, O_mv, y3, xj, yy, yg, O_un, ye, List.map_cons, List.map_nil, zx, zk, v8, List.cons_append, List.nil_append, List.length_cons, List.length_nil, Nat.reduceAdd, Nat.reduceSub, Nat.zero_add, Bool.not_true, Bool.not_false, zm, yc, za, xa, w8, xb, z7, zq, zj, zg, zh, Nat.add_zero, List.getElem?_cons_zero, Bool.bne_false, beq_self_eq_true, jp, eq_self, zs, yk, va, laid, zs, ← hh0, xo, xq, rbb, rq, ok_0 eh0, rb, jb, qv, qp, q1, rb1, rq1, rbb1, op2S, zwa, zxi, ztv, ztz, qn, fd eh1 hx0, zep]
        exact ⟨trivial, ff _⟩
    | ok l' =>
      rw [hc] at hR
      obtain ⟨rfl, rfl, rfl, tl, hp⟩ := hR
      have ch1 := ch0.kp eh0 k1 (fun h => cl.q (hs1 _ h).1) (fun h => cl.k (hs1 _ h).1) (fun b hb h => cl.r b hb (hs1 _ h).1)
      obtain ⟨h2, q2, r2, k2⟩ := ihr hb h1 i0 i q km n rm S2 (pt by_) e0 eh1 ch1 ty1 (cl.weak fun z hz => (hs2 z hz).1) (fun z hz => by have := hS z (hs2 z hz).1; have := O.kp.le; omega)
      obtain ⟨by2, x, c, t, hby, W, hR2, tl2⟩ := ygb e0 eh O tl hp cl hS hbS hs1 hs2 r2 k2
      have hby : by_ = by2 := by simpa using hby
      subst hby
      have eh2 := W.rd
      have rb2 : ∀ j, Heap.read1 h2 ⟨b, j, some 0⟩ = (vh (op2S o) [] l.pl (pt bx) (pt by_) s)[j]? := fun j => xz W.nd
      have rq2 : ∀ j, Heap.read1 h2 ⟨q, j, some 0⟩ = ([pt P.r, .map (some km), rm, .int .i64 (n : Int)] : List Value)[j]? := fun j => xz W.cq
      have rbb2 : ∀ j, Heap.read1 h2 ⟨h.length, j, some 0⟩ = ([pt q] : List Value)[j]? := fun j => xz W.bb
      cases hc2 : chkE kn rc (rt || o == .minus) r with
      | bad ec ea =>
        rw [hc2] at hR2
        obtain ⟨hx0, rfl, rfl, r', tr', hpr⟩ := hR2
        have hRR : chkE kn rc rt (.bin s o l r) = .bad x c := by rw [chkE, hc]; simp only [hc2]
        have f1 : ChkR P i S (pt b) l.pl h2 (chkE kn rc rt (.bin s o l r)) := by
          rw [hRR]
          exact ⟨hx0, ⟨.bin s o l' r', ⟨b, S1, S2, pt bx, pt by_, rfl, hbS, by rw [hp]; exact W.nd, tl2, tr', hs1, hs2⟩, hp⟩, eh2⟩
        have ff := ChkR.fin eh W.kp hS f1
        cases rt <;> cases o
        all_goals
          simp only [show (Op2.or == Op2.minus) = false from rfl, show (Op2.and == Op2.minus) = false from rfl, show (Op2.minus == Op2.minus) = true from rfl, show (Op2.seq == Op2.minus) = false from rfl, show (Op2.cross == Op2.minus) = false from rfl, Bool.or_false, Bool.or_true] at q2
          simp only [yw, ya, zt, xf, yo, zb, zz, zw, yb, zn, yi, zc, y0, wv, zo, zf, ze, zd, List.set_cons_succ, List.set_cons_zero, O_mv, y3, xj, yy, yg, O_un, ye, List.map_cons, List.map_nil, zx, zk, v8, List.cons_append, List.nil_append, List.length_cons, List.length_nil, Nat.reduceAdd, Nat.reduceSub, Nat.zero_add, Bool.not_true, Bool.not_false, zm, yc, za, xa, w8, xb, z7, zq, zj, zg, zh, Nat.add_zero, List.getElem?_cons_zero, Bool.bne_false, beq_self_eq_true, jp, eq_self, zs, yk, va, laid, zs, ← hh0, xo, xq, rbb, rq, ok_0 eh0, rb, jb, qv, qp, q1, rb1, rbb1, op2S, zwa, zxi, ztv, ztz, q2, rbb2, rq2, fd eh2 hx0, zep]
          exact ⟨trivial, ff _⟩
      | ok r' =>
        rw [hc2] at hR2
        obtain ⟨rfl, rfl, rfl, tr', hpr⟩ := hR2
        obtain ⟨opl, wl, ll, rl, hcl⟩ := W.cl
        obtain ⟨opr, wr, lr', rr', hcr⟩ := W.cr
        have lb2 := (List.getElem?_eq_some_iff.1 W.nd).1
        -- the kinds of two parts that are to be the same
        have same : (o = .or ∨ o = .and ∨ o = .minus) → ∃ h3, DF FF wk [pt by_, .bool l'.set, pt h.length] h2 = some (tup [], h3) ∧ (∀ j, Heap.read1 h3 ⟨b, j, some 0⟩ = (vh (op2S o) [] l.pl (pt bx) (pt by_) s)[j]?) ∧ Heap.read1 h3 ⟨bx, 5, some 0⟩ = some (.bool l'.set) ∧
            Heap.write1 h3 ⟨b, 5, some 0⟩ (.bool l'.set) = some (h3.set b (.cells (vh (op2S o) [] l.pl (pt bx) (pt by_) l'.set) 0 false)) ∧ ∀ w, ChkR P i S (pt b) l.pl (AM.finish h w (h3.set b (.cells (vh (op2S o) [] l.pl (pt bx) (pt by_) l'.set) 0 false))) (chkE kn rc rt (.bin s o l r)) ∧ Kp P S h (AM.finish h w (h3.set b (.cells (vh (op2S o) [] l.pl (pt bx) (pt by_) l'.set) 0 false))) := by
          intro ho
          obtain ⟨h3, x3, c3, qm, e3, k3, hx⟩ := zn2 eh2 W.cq W.bb l'.set hcr
          have nd3 := k3.keep _ _ W.nd id (nr b (cl.lo b hbS))
          have lb3 := (List.getElem?_eq_some_iff.1 nd3).1
          have bx3 := k3.keep _ _ hcl id (by
              obtain ⟨b', _, _, _, _, hpb, hbS1, _⟩ := tl2.root; have hpb : bx = b' := by simpa using hpb
              subst hpb; exact nr _ (cl.lo _ (hs1 _ hbS1).1))
          have k3' : Kp P S h h3 := (W.kp.trans k3).weak fun z hz => hz.elim id False.elim
          refine ⟨h3, qm, fun j => xz nd3, xz bx3, by rw [po nd3 (by simp [vh]), ziv], fun w => ChkR.fin eh (k3'.set hbS _) hS ?_ w⟩
          have tree : TreeP (h3.set b (.cells (vh (op2S o) [] l.pl (pt bx) (pt by_) l'.set) 0 false)) S (pt b) (.bin l'.set o l' r') :=
            ⟨b, S1, S2, pt bx, pt by_, rfl, hbS, by rw [hp]; exact List.getElem?_set_self lb3, tl2.keep fun z o hz ho => by
              rw [List.getElem?_set_ne (Ne.symm (hs1 z hz).2.1)]; exact k3.keep z o ho id (nr z (cl.lo z (hs1 z hz).1)), tr'.keep fun z o hz ho => by
              rw [List.getElem?_set_ne (Ne.symm (hs2 z hz).2)]; exact k3.keep z o ho id (nr z (cl.lo z (hs2 z hz).1)), hs1, hs2⟩
          have e3' := e0.node e3 (cl.lo b hbS) (.cells (vh (op2S o) [] l.pl (pt bx) (pt by_) l'.set) 0 false)
          rcases hx with ⟨hst, rfl, rfl⟩ | ⟨hst, rfl, rfl⟩
          · have hRR : chkE kn rc rt (.bin s o l r) = .ok (.bin l'.set o l' r') := by
              rw [chkE, hc]; simp only [hc2]
              have : (r'.set != l'.set) = false := by rw [bne, hst]; rfl
              rcases ho with rfl | rfl | rfl <;> simp only [this, Bool.false_eq_true, if_false]
            rw [hRR]
            exact ⟨tree, hp, e3'⟩
          · have hRR : chkE kn rc rt (.bin s o l r) = .bad 41 r.pl := by
              rw [chkE, hc]; simp only [hc2]
              have : (r'.set != l'.set) = true := by rw [bne, hst]; rfl
              rcases ho with rfl | rfl | rfl <;> simp only [this, if_true]
            rw [hRR]
            exact ⟨by omega, ⟨_, tree, hp⟩, e3'⟩
        -- the kinds of two parts that are to be of a kind each
        have each : ∀ k : Bool, (o = .seq ∧ k = false ∨ o = .cross ∧ k = true) → ∃ h3 h4, DF FF wk [pt bx, .bool k, pt h.length] h2 = some (tup [], h3) ∧ (∀ j, Heap.read1 h3 ⟨b, j, some 0⟩ = (vh (op2S o) [] l.pl (pt bx) (pt by_) s)[j]?) ∧ DF FF wk [pt by_, .bool k, pt h.length] h3 = some (tup [], h4) ∧
            ∀ w, ChkR P i S (pt b) l.pl (AM.finish h w h4) (chkE kn rc rt (.bin s o l r)) ∧ Kp P S h (AM.finish h w h4) := by
          intro k ho
          obtain ⟨h3, x3, c3, qm, e3, k3, hx⟩ := zn2 eh2 W.cq W.bb k hcl
          have nq : q ≠ P.r := by rintro rfl; have := W.rd.hr.symm.trans W.cq; simp at this
          have hbl : h.length ≠ P.r := by have := eh.lr; omega
          have hbyS : by_ ≠ P.r := by
              obtain ⟨b', _, _, _, _, hpb, hbS1, _⟩ := tr'.root; have hpb : by_ = b' := by simpa using hpb
              subst hpb; exact nr _ (cl.lo _ (hs2 _ hbS1).1)
          have nd3 := k3.keep _ _ W.nd id (nr b (cl.lo b hbS))
          have cq3 := k3.keep _ _ W.cq id nq
          have bb3 := k3.keep _ _ W.bb id hbl
          have cr3 := k3.keep _ _ hcr id hbyS
          have tree : ∀ h4, Kp P (fun _ => False) h3 h4 → ∀ s', s' = s → TreeP h4 S (pt b) (.bin s' o l' r') := fun h4 k4 s' hs' => by
            subst hs'
            have kk := k3.trans k4
            exact ⟨b, S1, S2, pt bx, pt by_, rfl, hbS, by rw [hp]; exact kk.keep _ _ W.nd (fun h => h.elim id id) (nr b (cl.lo b hbS)), tl2.keep fun z o hz ho => kk.keep z o ho (fun h => h.elim id id) (nr z (cl.lo z (hs1 z hz).1)), tr'.keep fun z o hz ho => kk.keep z o ho (fun h => h.elim id id) (nr z (cl.lo z (hs2 z hz).1)), hs1, hs2⟩
          have kph : ∀ h4, Kp P (fun _ => False) h3 h4 → Kp P S h h4 := fun h4 k4 => ((W.kp.trans k3).trans k4).weak fun z hz => hz.elim (fun h => h.elim id False.elim) False.elim
          rcases hx with ⟨hst, rfl, rfl⟩ | ⟨hst, rfl, rfl⟩
          · obtain ⟨h4, x4, c4, qm4, e4, k4, hx4⟩ := zn2 e3 cq3 bb3 k cr3
            refine ⟨h3, h4, qm, fun j => xz nd3, qm4, fun w => ChkR.fin eh (kph h4 k4) hS ?_ w⟩
            rcases hx4 with ⟨hst4, rfl, rfl⟩ | ⟨hst4, rfl, rfl⟩
            · have hRR : chkE kn rc rt (.bin s o l r) = .ok (.bin s o l' r') := by
                rw [chkE, hc]; simp only [hc2]
                rcases ho with ⟨rfl, rfl⟩ | ⟨rfl, rfl⟩ <;> (cases h' : l'.set <;> cases h'' : r'.set <;> simp_all)
              rw [hRR]
              exact ⟨tree h4 k4 s rfl, hp, e4⟩
            · have hRR : chkE kn rc rt (.bin s o l r) = .bad 41 r.pl := by
                rw [chkE, hc]; simp only [hc2]
                rcases ho with ⟨rfl, rfl⟩ | ⟨rfl, rfl⟩ <;> (cases h' : l'.set <;> cases h'' : r'.set <;> simp_all)
              rw [hRR]
              exact ⟨by omega, ⟨_, tree h4 k4 s rfl, hp⟩, e4⟩
          · have qm4 := yei e3 (by omega) cq3 bb3 k cr3
            refine ⟨h3, h3, qm, fun j => xz nd3, qm4, fun w => ChkR.fin eh (kph h3 (Kp.refl _ _ _)) hS ?_ w⟩
            have hRR : chkE kn rc rt (.bin s o l r) = .bad 41 l.pl := by
              rw [chkE, hc]; simp only [hc2]
              rcases ho with ⟨rfl, rfl⟩ | ⟨rfl, rfl⟩ <;> (cases h' : l'.set <;> simp_all)
            rw [hRR]
            exact ⟨by omega, ⟨_, tree h3 (Kp.refl _ _ _) s rfl, hp⟩, e3⟩
        have rbx2 : Heap.read1 h2 ⟨bx, 5, some 0⟩ = some (.bool l'.set) := xz hcl
        cases o
        · obtain ⟨h3, qm, rb3, rx3, wb, ff⟩ := same (by simp)
          cases rt
          all_goals
            simp only [show (Op2.or == Op2.minus) = false from rfl, Bool.or_false] at q2
            simp only [yw, ya, zt, yo, zb, zz, zw, yb, zn, yi, zc, zp, y0, wv, zo, zf, ze, zd, List.set_cons_succ, List.set_cons_zero, O_mv, y3, xj, yy, yg, O_un, ye, List.map_cons, List.map_nil, zx, zk, v8, List.cons_append, List.nil_append, List.length_cons, List.length_nil, Nat.reduceAdd, Nat.reduceSub, Nat.zero_add, Bool.not_true, zm, yc, zy, za, zi, w8, xb, z7, zl, xc, g9, zq, zj, zg, zh, Nat.add_zero, List.getElem?_cons_zero, Bool.bne_false, beq_self_eq_true, jp, eq_self, zs, yk, va, laid, zs, ← hh0, xo, xq, rbb, rq, ok_0 eh0, rb, jb, qv, qp, q1, rb1, rbb1, op2S, ycq, zwa, q2, rbb2, rq2, rb2, ok_0 eh2, gv, bt, je, rbx2, qm, rb3, rx3, wb, wq]
            exact ⟨trivial, ff _⟩
        · obtain ⟨h3, qm, rb3, rx3, wb, ff⟩ := same (by simp)
          cases rt
          all_goals
            simp only [show (Op2.and == Op2.minus) = false from rfl, Bool.or_false] at q2
            simp only [yw, ya, zt, yo, zb, zz, zw, yb, zn, yi, zc, zp, y0, wv, zo, zf, ze, zd, List.set_cons_succ, List.set_cons_zero, O_mv, y3, xj, yy, yg, O_un, ye, List.map_cons, List.map_nil, zx, zk, v8, List.cons_append, List.nil_append, List.length_cons, List.length_nil, Nat.reduceAdd, Nat.reduceSub, Nat.zero_add, Bool.not_true, zm, yc, zy, za, zi, w8, xb, z7, zl, xc, g9, zq, zj, zg, zh, Nat.add_zero, List.getElem?_cons_zero, Bool.bne_false, beq_self_eq_true, jp, eq_self, zs, yk, va, laid, zs, ← hh0, xo, xq, rbb, rq, ok_0 eh0, rb, jb, qv, qp, q1, rb1, rbb1, op2S, yca, ycw, zxi, q2, rbb2, rq2, rb2, ok_0 eh2, gv, bt, je, rbx2, qm, rb3, rx3, wb, wq]
            exact ⟨trivial, ff _⟩
        · obtain ⟨h3, qm, rb3, rx3, wb, ff⟩ := same (by simp)
          cases rt
          all_goals
            simp only [show (Op2.minus == Op2.minus) = true from rfl, Bool.or_true] at q2
            simp only [yw, ya, zt, yo, zb, zz, zw, yb, zn, yi, zc, zp, y0, wv, zo, zf, ze, zd, List.set_cons_succ, List.set_cons_zero, O_mv, y3, xj, yy, yg, O_un, ye, List.map_cons, List.map_nil, zx, zk, v8, List.cons_append, List.nil_append, List.length_cons, List.length_nil, Nat.reduceAdd, Nat.reduceSub, Nat.zero_add, Bool.not_true, zm, yc, zy, za, zi, w8, xb, z7, zl, xc, g9, zq, zj, zg, zh, Nat.add_zero, List.getElem?_cons_zero, Bool.bne_false, beq_self_eq_true, jp, eq_self, zs, yk, va, laid, zs, ← hh0, xo, xq, rbb, rq, ok_0 eh0, rb, jb, qv, qp, q1, rb1, rbb1, op2S, ycn, ycm, yc3, q2, rbb2, rq2, rb2, ok_0 eh2, gv, bt, je, rbx2, qm, rb3, rx3, wb, wq]
            exact ⟨trivial, ff _⟩
        · obtain ⟨h3, h4, qm, rb3, qm4, ff⟩ := each false (by simp)
          cases rt
          all_goals
            simp only [show (Op2.seq == Op2.minus) = false from rfl, Bool.or_false] at q2
            simp only [yw, ya, zt, yo, zb, zz, zw, yb, zn, yi, zc, y0, wv, zo, zf, ze, zd, List.set_cons_succ, List.set_cons_zero, O_mv, y3, xj, yy, yg, O_un, ye, List.map_cons, List.map_nil, zx, zk, v8, List.cons_append, List.nil_append, List.length_cons, List.length_nil, Nat.reduceAdd, Nat.reduceSub, Nat.zero_add, Bool.not_true, zm, yc, zy, za, zi, w8, xb, z7, zq, zj, zg, zh, Nat.add_zero, List.getElem?_cons_zero, Bool.bne_false, beq_self_eq_true, jp, eq_self, zs, yk, va, laid, zs, ← hh0, xo, xq, rbb, rq, ok_0 eh0, rb, jb, qv, qp, q1, rb1, rbb1, op2S, yce, yco, yc4, ztv, q2, rbb2, rq2, rb2, ok_0 eh2, gv, bt, je, qm, rb3, qm4, wq]
            exact ⟨trivial, ff _⟩
        · obtain ⟨h3, h4, qm, rb3, qm4, ff⟩ := each true (by simp)
          cases rt
          all_goals
            simp only [show (Op2.cross == Op2.minus) = false from rfl, Bool.or_false] at q2
            simp only [yw, ya, zt, yo, zb, zz, zw, yb, zn, yi, zc, y0, wv, zo, zf, ze, zd, List.set_cons_succ, List.set_cons_zero, O_mv, y3, xj, yy, yg, O_un, ye, List.map_cons, List.map_nil, zx, zk, v8, List.cons_append, List.nil_append, List.length_cons, List.length_nil, Nat.reduceAdd, Nat.reduceSub, Nat.zero_add, Bool.not_true, zm, yc, zy, za, zi, w8, xb, z7, zq, zj, zg, zh, Nat.add_zero, List.getElem?_cons_zero, Bool.bne_false, beq_self_eq_true, jp, eq_self, zs, yk, va, laid, zs, ← hh0, xo, xq, rbb, rq, ok_0 eh0, rb, jb, qv, qp, q1, rb1, rbb1, op2S, ycc, ycp, ycj, ztz, yck, q2, rbb2, rq2, rb2, ok_0 eh2, gv, bt, je, qm, rb3, qm4, wq]
            exact ⟨trivial, ff _⟩
  obtain ⟨v, h', r, rfl, g⟩ := this
  exact ⟨h', r, g⟩
theorem zg5 (P : RP) (kn : Kn) (rc : List Bys) : ∀ (e : Ex) (rt : Bool), ze4 P kn rc rt e
  | .name s a w, rt => zut P kn rc s a w rt
  | .zero a, rt => zuv P kn rc a rt
  | .par s a e, rt => zw6 P kn rc s a e rt (zg5 P kn rc e rt)
  | .box a e, rt => zwq P kn rc a e rt (zg5 P kn rc e rt)
  | .un o e, rt => yae P kn rc o e rt (zg5 P kn rc e rt)
  | .bin s o l r, rt => zxt P kn rc s o l r rt (zg5 P kn rc l rt) (zg5 P kn rc r (rt || o == .minus))
end Go.Proofs.YtljdbheclfaloaaGreatDoor.AM
namespace Go.Proofs.YtljdbheclfaloaaGreatDoor.AM
open Go.RowKit
set_option linter.unusedSimpArgs false
set_option linter.unusedVariables false
set_option maxRecDepth 20000

theorem zvr (l : List Bys) (w : Bys) (h : l.contains w = false) : zaa .str (str w) (.bool true) (rcE l) = some (rcE (l ++ [w])) := by
  have := zsz (fun _ => Value.bool true) w () (l.map fun w => (w, ())) (by rw [zot, h]; rfl)
  rw [rcE, this, rcE]; simp
theorem zm0 (w : Bys) : ∀ l : List Bys, l.contains w = true → zaa .str (str w) (.bool true) (rcE l) = some (rcE l)
  | [], h => by cases h
  | v :: l, h => by
    rw [List.contains_cons] at h
    have e : rcE (v :: l) = (str v, .bool true) :: rcE l := rfl
    rw [e, zaa, zmn]
    cases hv : (w == v)
    · rw [hv, Bool.false_or] at h
      simp only
      rw [zm0 w l h]; rfl
    · rw [eq_of_beq hv]
def zl0 (l : List Bys) (w : Bys) : List Bys := if l.contains w then l else l ++ [w]
theorem yfj (l : List Bys) (w : Bys) : zaa .str (str w) (.bool true) (rcE l) = some (rcE (zl0 l w)) := by
  unfold zl0
  cases h : l.contains w
  · exact zvr l w h
  · exact zm0 w l h
theorem zjc {kn : Kn} {w : Bys} (h : jk kn w = none) (b : Bool) : zaa .str (str w) (.bool b) (knE kn) = some (knE (kn ++ [(w, b)])) := by
  rw [zgc, Option.map_eq_none_iff] at h
  have := zsz (fun b => Value.bool b) w b kn h
  exact this
theorem zmg {w : Bys} {b : Bool} : ∀ {kn : Kn}, jk kn w = some b → zaa .str (str w) (.bool b) (knE kn) = some (knE kn)
  | [], h => by cases h
  | (v, s) :: kn, h => by
    rw [jk] at h
    have e : knE ((v, s) :: kn) = (str v, .bool s) :: knE kn := rfl
    rw [e, zaa, zmn]
    cases hv : (w == v)
    · rw [hv] at h
      simp only [Bool.false_eq_true, if_false] at h
      simp only
      rw [zmg h]; rfl
    · rw [hv] at h
      simp only [if_true] at h
      cases h
      rw [eq_of_beq hv]
def zeu (kn : Kn) (here : List Bys) (n x : Nat) (w : Bys) : Nat := if x ≠ 0 then x else if (jk kn w).isSome || here.contains w then 42 else if 64 ≤ n then 2 else 0
def zeh (kn : Kn) (here : List Bys) (n x a p : Nat) (w : Bys) : Nat := if x ≠ 0 then a else if (jk kn w).isSome || here.contains w then p else if 64 ≤ n then p else 0
def KpO (P : RP) (N : Nat → Prop) (h h' : Heap) : Prop := (∀ (b : Nat) (o : AObj), h[b]? = some o → ¬ N b → b ≠ P.r → h'[b]? = some o) ∧ h.length ≤ h'.length
theorem zib {P : RP} {h : Heap} {i x a : Nat} (e : Rd P h i 0 x a) (c p : Nat) (hc : c ≠ 0) : ∃ h', DF FF x9 [pt P.r, .int .i64 (c : Int), .int .i64 (p : Int)] h = some (tup [], h') ∧ Rd P h' i 0 (if x ≠ 0 then x else c) (if x ≠ 0 then a else p) ∧ Kp P (fun _ => False) h h' := by
  by_cases hx : x = 0
  · subst hx
    obtain ⟨h', q, e', m⟩ := zjg e c p hc
    exact ⟨h', q, by simpa using e', m.kp fun o ho => by rw [e'.hc, ← e.hc]; exact ho⟩
  · refine ⟨h, zkq e hx _ _, ?_, Kp.refl _ _ _⟩
    rw [if_pos hx, if_pos hx]; exact e
set_option maxHeartbeats 2000000 in
theorem yez {P : RP} {hb h : Heap} {i0 i x a q km hm n : Nat} {rm v : Value} {kn : Kn} {here : List Bys} {w : Bys} {p : Nat} (eb : Rd P hb i0 0 0 0) (hqb : hb.length ≤ q) (hhb : hb.length ≤ hm) (e : Rd P h i 0 x a) (hx : x = 0 → a = 0) (hq : h[q]? = some (.cells [pt P.r, .map (some km), rm, .int .i64 (n : Int)] 0 false)) (hk : h[km]? = some (.map (knE kn))) (hh : h[hm]? = some (.map (rcE here))) (hn : n < 1000000) (hv : ∃ b, v = pt b) :
    ∃ h', DF FF gz [pt q, agg [str w, .int .i64 (p : Int), v], .map (some hm)] h = some (tup [], h') ∧ Rd P h' i 0 (zeu kn here n x w) (zeh kn here n x a p w) ∧ h'[q]? = some (.cells [pt P.r, .map (some km), rm, .int .i64 ((n + 1 : Nat) : Int)] 0 false) ∧ h'[hm]? = some (.map (rcE (zl0 here w))) ∧ KpO P (fun z => z = q ∨ z = hm) h h' := by
  have nq : q ≠ P.r := by rintro rfl; have := e.hr.symm.trans hq; simp at this
  have nk : km ≠ P.r := by rintro rfl; have := e.hr.symm.trans hk; simp at this
  have nh : hm ≠ P.r := by rintro rfl; have := e.hr.symm.trans hh; simp at this
  have qc : q ≠ P.c := by rintro rfl; have := e.hc.symm.trans hq; simp at this
  have hc : hm ≠ P.c := by rintro rfl; have := e.hc.symm.trans hh; simp at this
  have qh : q ≠ hm := by rintro rfl; have := hq.symm.trans hh; simp at this
  have : ∃ v' h', DF FF gz [pt q, agg [str w, .int .i64 (p : Int), v], .map (some hm)] h = some (v', h') ∧ (v' = tup [] ∧ Rd P h' i 0 (zeu kn here n x w) (zeh kn here n x a p w) ∧ h'[q]? = some (.cells [pt P.r, .map (some km), rm, .int .i64 ((n + 1 : Nat) : Int)] 0 false) ∧ h'[hm]? = some (.map (rcE (zl0 here w))) ∧ KpO P (fun z => z = q ∨ z = hm) h h') := by
    refine wz zhw ?_
    obtain ⟨vb, rfl⟩ := hv
    obtain ⟨h0, hh0⟩ : ∃ h0, h0 = h ++ [AObj.cells [str w, .int .i64 (p : Int), pt vb] 0 false] := ⟨_, rfl⟩
    have e0 : Rd P h0 i 0 x a := by rw [hh0]; exact e.more _
    have k0 : Kp P (fun _ => False) h h0 := by rw [hh0]; exact Kp.add _ _ _ _
    have g0 : h0[h.length]? = some (.cells [str w, .int .i64 (p : Int), pt vb] 0 false) := by rw [hh0]; simp
    have lr := e.lr
    have q0 := k0.keep _ _ hq id nq
    have kk0 := k0.keep _ _ hk id nk
    have hh0' := k0.keep _ _ hh id nh
    have c1 : ((64 : Int) ≤ (n : Int)) = (64 ≤ n) := by apply propext; omega
    have w1 : IntKind.i64.wrap ((n : Int) + 1) = ((n + 1 : Nat) : Int) := xp (by omega)
    -- whatever went wrong
    have last : ∀ (K : Heap) (x' a' : Nat), Rd P K i 0 x' a' → Kp P (fun _ => False) h0 K → x' = zeu kn here n x w → a' = zeh kn here n x a p w →
        Heap.read1 K ⟨q, 3, some 0⟩ = some (.int .i64 (n : Int)) ∧ ∃ K1 K2, Heap.write1 K ⟨q, 3, some 0⟩ (.int .i64 ((n + 1 : Nat) : Int)) = some K1 ∧ Heap.read1 K1 ⟨h.length, 0, some 0⟩ = some (str w) ∧ updO K1 .str (.map (some hm)) (str w) (.bool true) = some (undef, K2) ∧
          ∀ u, Rd P (AM.finish h u K2) i 0 (zeu kn here n x w) (zeh kn here n x a p w) ∧ (AM.finish h u K2)[q]? = some (.cells [pt P.r, .map (some km), rm, .int .i64 ((n + 1 : Nat) : Int)] 0 false) ∧ (AM.finish h u K2)[hm]? = some (.map (rcE (zl0 here w))) ∧ KpO P (fun z => z = q ∨ z = hm) h (AM.finish h u K2) := by
      intro K x' a' eK kK hx' ha'
      subst hx' ha'
      have qK := kK.keep _ _ q0 id nq
      have hK := kK.keep _ _ hh0' id nh
      have lq := (List.getElem?_eq_some_iff.1 qK).1
      have lh := (List.getElem?_eq_some_iff.1 hK).1
      have hK1 : (K.set q (.cells [pt P.r, .map (some km), rm, .int .i64 ((n + 1 : Nat) : Int)] 0 false))[hm]? = some (.map (rcE here)) := by rw [List.getElem?_set_ne qh]; exact hK
      have gK := kK.keep _ _ g0 id (by omega)
      have lq0 := (List.getElem?_eq_some_iff.1 hq).1
      have hq2 : ((K.set q (.cells [pt P.r, .map (some km), rm, .int .i64 ((n + 1 : Nat) : Int)] 0 false)).set hm (.map (rcE (zl0 here w))))[q]? = some (.cells [pt P.r, .map (some km), rm, .int .i64 ((n + 1 : Nat) : Int)] 0 false) := by rw [List.getElem?_set_ne (Ne.symm qh), List.getElem?_set_self lq]
      refine ⟨xz qK, _, _, by rw [po qK (by simp)]; rfl, ?_, zmw _ hK1 (yfj here w), ?_⟩
      · rw [yb0 (by simp; omega), xz gK]; rfl
      · intro u
        have hfin : AM.finish h u ((K.set q (.cells [pt P.r, .map (some km), rm, .int .i64 ((n + 1 : Nat) : Int)] 0 false)).set hm (.map (rcE (zl0 here w)))) = ((K.set q (.cells [pt P.r, .map (some km), rm, .int .i64 ((n + 1 : Nat) : Int)] 0 false)).set hm (.map (rcE (zl0 here w)))) := by
          rcases zaj h _ u with hf | ⟨_, hkk⟩
          · exact hf
          · exfalso
            have h1 := hq
            rw [← hkk, List.getElem?_take, if_pos lq0, hq2] at h1
            simp at h1
            omega
        rw [hfin]
        refine ⟨?_, hq2, ?_, ?_, ?_⟩
        · exact eb.upd (eb.upd eK hqb _) hhb _
        · rw [List.getElem?_set_self (by rw [List.length_set]; exact lh)]
        · intro b o ho n1 n2
          rw [List.getElem?_set_ne (fun h => n1 (.inr h.symm)), List.getElem?_set_ne (fun h => n1 (.inl h.symm))]
          exact kK.keep b o (k0.keep b o ho id n2) id n2
        · rw [List.length_set, List.length_set]; have := k0.le; have := kK.le; omega
    have rg : ∀ j, Heap.read1 h0 ⟨h.length, j, some 0⟩ = ([str w, .int .i64 (p : Int), pt vb] : List Value)[j]? := fun j => xz g0
    have rq : ∀ j, Heap.read1 h0 ⟨q, j, some 0⟩ = ([pt P.r, .map (some km), rm, .int .i64 (n : Int)] : List Value)[j]? := fun j => xz q0
    have lk := zf5 h0 kk0 (.bool false) true (w := w) (zsj kn w)
    have lrc := zf5 h0 hh0' (.bool false) false (w := w) (zv9 here w)
    obtain ⟨K1, f1, e1, k1⟩ := zib e0 42 p (by omega)
    obtain ⟨K2, f2, e2, k2⟩ := zib e0 2 p (by omega)
    obtain ⟨K3, f3, e3, k3⟩ := zib e1 2 p (by omega)
    simp only [Int.cast_ofNat_Int] at f1 f2 f3
    have k13 : Kp P (fun _ => False) h0 K3 := (k1.trans k3).weak fun z hz => hz.elim id id
    have rq1 : ∀ j, Heap.read1 K1 ⟨q, j, some 0⟩ = ([pt P.r, .map (some km), rm, .int .i64 (n : Int)] : List Value)[j]? := fun j => xz (k1.keep _ _ q0 id nq)
    have rg1 : ∀ j, Heap.read1 K1 ⟨h.length, j, some 0⟩ = ([str w, .int .i64 (p : Int), pt vb] : List Value)[j]? := fun j => xz (k1.keep _ _ g0 id (by omega))
    have rq3 : ∀ j, Heap.read1 K3 ⟨q, j, some 0⟩ = ([pt P.r, .map (some km), rm, .int .i64 (n : Int)] : List Value)[j]? := fun j => xz (k13.keep _ _ q0 id nq)
    have rq2 : ∀ j, Heap.read1 K2 ⟨q, j, some 0⟩ = ([pt P.r, .map (some km), rm, .int .i64 (n : Int)] : List Value)[j]? := fun j => xz (k2.keep _ _ q0 id nq)
    cases htw : ((jk kn w).isSome || here.contains w)
    · rw [Bool.or_eq_false_iff] at htw
      obtain ⟨t1, t2⟩ := htw
      have hl : jk kn w = none := by simpa using t1
      rw [hl] at lk
      rw [t2] at lrc
      by_cases h64 : 64 ≤ n
      · have hX : (if x ≠ 0 then x else 2) = zeu kn here n x w := by unfold zeu; rw [t1, t2]; simp [h64]
        have hA : (if x ≠ 0 then a else p) = zeh kn here n x a p w := by unfold zeh; rw [t1, t2]; simp [h64]
        obtain ⟨z1, J1, J2, z2, z3, z4, z5⟩ := last K2 _ _ e2 k2 hX hA
        simp only [jn, ya, zt, yo, zb, zz, zw, yb, zn, yi, zc, zp, y0, zo, zf, ze, zd, List.set_cons_succ, List.set_cons_zero, O_mv, y3, xj, yy, yg, ye, List.map_cons, List.map_nil, zx, zk, vz, zcs, List.cons_append, List.nil_append, List.length_cons, List.length_nil, Nat.reduceAdd, Nat.reduceSub, Nat.zero_add, zm, yc, za, Option.map_none, w8, xb, z7, xh, y8, zl, xc, xx, zq, zj, zg, zh, Nat.add_zero, List.getElem?_cons_zero, List.getElem?_cons_succ, eq_self, yf, zs, Option.map_none, decide_true, yf, zs, ← hh0, rg, rq, k8, lk, lrc, zg0, Option.map_none, bh, wq, Bool.false_eq_true, if_false, if_true, c1, h64, decide_true, f2, rq2, w1, z2, z3, z4]
        exact ⟨trivial, z5 _⟩
      · have hX : x = zeu kn here n x w := by unfold zeu; rw [t1, t2]; by_cases hx0 : x = 0 <;> simp [h64, hx0]
        have hA : a = zeh kn here n x a p w := by unfold zeh; rw [t1, t2]; by_cases hx0 : x = 0 <;> simp [h64, hx0, hx]
        obtain ⟨z1, J1, J2, z2, z3, z4, z5⟩ := last h0 _ _ e0 (Kp.refl _ _ _) hX hA
        simp only [jn, ya, zt, yo, zb, zw, yb, zn, yi, zc, zp, y0, zo, zf, ze, zd, List.set_cons_succ, List.set_cons_zero, O_mv, y3, xj, yy, yg, zx, zk, vz, zcs, List.cons_append, List.nil_append, List.length_cons, List.length_nil, Nat.reduceAdd, Nat.reduceSub, Nat.zero_add, zm, yc, za, Option.map_none, w8, xb, z7, xh, y8, zl, xc, xx, zq, zj, zg, zh, Nat.add_zero, List.getElem?_cons_zero, List.getElem?_cons_succ, eq_self, yf, zs, Option.map_none, decide_false, yf, zs, ← hh0, rg, rq, k8, lk, lrc, zg0, Option.map_none, bh, wq, Bool.false_eq_true, if_false, if_true, c1, h64, decide_false, w1, z2, z3, z4]
        exact ⟨trivial, z5 _⟩
    · have hX1 : (if x ≠ 0 then x else 42) = zeu kn here n x w := by unfold zeu; rw [htw]; simp
      have hA1 : (if x ≠ 0 then a else p) = zeh kn here n x a p w := by unfold zeh; rw [htw]; simp
      have hne : (if x ≠ 0 then x else 42) ≠ 0 := by split <;> omega
      have hX3 : (if (if x ≠ 0 then x else 42) ≠ 0 then (if x ≠ 0 then x else 42) else 2) = zeu kn here n x w := by rw [if_pos hne]; exact hX1
      have hA3 : (if (if x ≠ 0 then x else 42) ≠ 0 then (if x ≠ 0 then a else p) else p) = zeh kn here n x a p w := by rw [if_pos hne]; exact hA1
      have two : ∀ Q : Prop, (∀ t, jk kn w = some t → Q) → (jk kn w = none → here.contains w = true → Q) → Q := fun Q a b => by
        cases hl : jk kn w with
        | some t => exact a t hl
        | none => rw [hl] at htw; exact b hl htw
      by_cases h64 : 64 ≤ n
      · obtain ⟨z1, J1, J2, z2, z3, z4, z5⟩ := last K3 _ _ e3 k13 hX3 hA3
        refine two _ (fun t hl => ?_) fun hl hh => ?_
        · rw [hl] at lk
          simp only [jn, ya, zt, zb, zz, yb, zn, yi, zc, zp, wv, zo, zf, ze, zd, List.set_cons_succ, List.set_cons_zero, O_mv, y3, xj, yy, yg, ye, List.map_cons, List.map_nil, zx, zk, vz, zcs, List.cons_append, List.nil_append, List.length_cons, List.length_nil, Nat.reduceAdd, Nat.reduceSub, Nat.zero_add, zm, yc, za, w8, xb, z7, xh, y8, zl, xc, xx, zq, zj, zg, zh, Nat.add_zero, Option.map_some, List.getElem?_cons_zero, List.getElem?_cons_succ, eq_self, yf, zs, Option.map_some, decide_true, yf, zs, ← hh0, rg, rq, k8, lk, zg0, Option.map_some, bh, wq, if_true, c1, h64, decide_true, f1, rq1, rg1, f3, rq3, w1, z2, z3, z4]
          exact ⟨trivial, z5 _⟩
        · rw [hl] at lk
          rw [hh] at lrc
          simp only [jn, ya, zt, zb, zz, yb, zn, yi, zc, zp, y0, zo, zf, ze, zd, List.set_cons_succ, List.set_cons_zero, O_mv, y3, xj, yy, yg, ye, List.map_cons, List.map_nil, zx, zk, vz, zcs, List.cons_append, List.nil_append, List.length_cons, List.length_nil, Nat.reduceAdd, Nat.reduceSub, Nat.zero_add, zm, yc, za, Option.map_none, w8, xb, z7, xh, y8, zl, xc, xx, zq, zj, zg, zh, Nat.add_zero, List.getElem?_cons_zero, List.getElem?_cons_succ, eq_self, yf, zs, Option.map_none, decide_true, yf, zs, ← hh0, rg, rq, k8, lk, lrc, zg0, Option.map_none, bh, wq, Bool.false_eq_true, if_false, if_true, c1, h64, decide_true, f1, rq1, rg1, f3, rq3, w1, z2, z3, z4]
          exact ⟨trivial, z5 _⟩
      · obtain ⟨z1, J1, J2, z2, z3, z4, z5⟩ := last K1 _ _ e1 k1 hX1 hA1
        refine two _ (fun t hl => ?_) fun hl hh => ?_
        · rw [hl] at lk
          simp only [jn, ya, zt, yo, zb, zz, zw, yb, zn, yi, zc, zp, wv, zo, zf, ze, zd, List.set_cons_succ, List.set_cons_zero, O_mv, y3, xj, yy, yg, ye, List.map_cons, List.map_nil, zx, zk, vz, zcs, List.cons_append, List.nil_append, List.length_cons, List.length_nil, Nat.reduceAdd, Nat.reduceSub, Nat.zero_add, zm, yc, za, w8, xb, z7, xh, y8, zl, xc, xx, zq, zj, zg, zh, Nat.add_zero, Option.map_some, List.getElem?_cons_zero, List.getElem?_cons_succ, eq_self, yf, zs, Option.map_some, decide_false, yf, zs, ← hh0, rg, rq, k8, lk, zg0, Option.map_some, bh, wq, if_true, c1, h64, decide_false, f1, rq1, w1, z2, z3, z4]
          exact ⟨trivial, z5 _⟩
        · rw [hl] at lk
          rw [hh] at lrc
          simp only [jn, ya, zt, yo, zb, zz, zw, yb, zn, yi, zc, zp, y0, zo, zf, ze, zd, List.set_cons_succ, List.set_cons_zero, O_mv, y3, xj, yy, yg, ye, List.map_cons, List.map_nil, zx, zk, vz, zcs, List.cons_append, List.nil_append, List.length_cons, List.length_nil, Nat.reduceAdd, Nat.reduceSub, Nat.zero_add, zm, yc, za, Option.map_none, w8, xb, z7, xh, y8, zl, xc, xx, zq, zj, zg, zh, Nat.add_zero, List.getElem?_cons_zero, List.getElem?_cons_succ, eq_self, yf, zs, Option.map_none, decide_false, yf, zs, ← hh0, rg, rq, k8, lk, lrc, zg0, Option.map_none, bh, wq, Bool.false_eq_true, if_false, if_true, c1, h64, decide_false, f1, rq1, w1, z2, z3, z4]
          exact ⟨trivial, z5 _⟩
  obtain ⟨v', h', r, rfl, g⟩ := this
  exact ⟨h', r, g⟩
end Go.Proofs.YtljdbheclfaloaaGreatDoor.AM
namespace Go.Proofs.YtljdbheclfaloaaGreatDoor.AM
open Go.RowKit
set_option linter.unusedSimpArgs false
set_option linter.unusedVariables false
set_option maxRecDepth 20000

theorem gu (w : Bys) : ∀ (a b : Kn), jk (a ++ b) w = (jk a w).or (jk b w)
  | [], b => rfl
  | (v, s) :: a, b => by
    rw [List.cons_append, jk, jk]
    cases (w == v)
    · exact gu w a b
    · rfl
theorem zef (w : Bys) (f : Gv → Bool) : ∀ gs : List Gv, (gs.map (·.name)).contains w = false → jk (gs.map fun g => (g.name, f g)) w = none
  | [], h => rfl
  | g :: gs, h => by
    rw [List.map_cons, List.contains_cons, Bool.or_eq_false_iff] at h
    rw [List.map_cons, jk, h.1, if_neg Bool.false_ne_true]
    exact zef w f gs h.2
theorem zj5 {kn : Kn} : ∀ {gs : List Gv} {n : Nat} {here : List Bys}, zba kn n here gs = .ok () → ∀ (k : Nat) (g : Gv), gs[k]? = some g → jk kn g.name = none ∧ (here ++ (gs.take k).map (·.name)).contains g.name = false
  | [], n, here, h, k, g, hk => by simp at hk
  | g' :: gs, n, here, h, k, g, hk => by
    rw [zba] at h
    split at h
    · cases h
    · rename_i h1
      split at h
      · cases h
      · have h1 := Bool.not_eq_true _ |>.mp h1
        rw [Bool.or_eq_false_iff] at h1
        cases k with
        | zero =>
          cases hk
          exact ⟨by simpa using h1.1, by simpa using h1.2⟩
        | succ k =>
          obtain ⟨a, b⟩ := zj5 h k g (by simpa using hk)
          exact ⟨a, by rw [List.append_assoc] at b; simpa using b⟩
theorem zp3 {kn : Kn} : ∀ {gs : List Gv} {n : Nat} {here : List Bys}, zba kn n here gs = .ok () → n + gs.length ≤ 64 + 0 ∨ gs = []
  | [], n, here, h => .inr rfl
  | g' :: gs, n, here, h => by
    rw [zba] at h
    split at h
    · cases h
    · split at h
      · cases h
      · left
        rcases zp3 h with h' | rfl
        · simp only [List.length_cons]; omega
        · simp only [List.length_cons, List.length_nil]; omega
def LookR (P : RP) (i q km n : Nat) (kn : Kn) (T : Nat → Prop) (row : List Value) (h' : Heap) : CR Stm → Prop
  | .ok st => StP h' T row st ∧ Rd P h' i 0 0 0 ∧ (∃ rm, h'[q]? = some (.cells [pt P.r, .map (some km), rm, .int .i64 ((n + st.given.length : Nat) : Int)] 0 false)) ∧ h'[km]? = some (.map (knE (kn ++ st.given)))
  | .bad c a => c ≠ 0 ∧ Rd P h' i 0 c a
theorem KpO.keep {P : RP} {N : Nat → Prop} {h h' : Heap} (k : KpO P N h h') (b : Nat) (o : AObj) (ho : h[b]? = some o) (n1 : ¬ N b) (n2 : b ≠ P.r) : h'[b]? = some o := k.1 b o ho n1 n2
theorem KpO.trans {P : RP} {N N' : Nat → Prop} {h h' h'' : Heap} (a : KpO P N h h') (b : KpO P N' h' h'') : KpO P (fun z => N z ∨ N' z) h h'' :=
  ⟨fun x o e n1 n2 => b.1 x o (a.1 x o e (fun hh => n1 (.inl hh)) n2) (fun hh => n1 (.inr hh)) n2, Nat.le_trans a.2 b.2⟩
theorem KpO.weak {P : RP} {N N' : Nat → Prop} {h h' : Heap} (a : KpO P N h h') (hs : ∀ z, z < h.length → N z → N' z) : KpO P N' h h' := ⟨fun b o e n1 n2 => a.1 b o e (fun hh => n1 (hs b (List.getElem?_eq_some_iff.1 e).1 hh)) n2, a.2⟩
theorem Kp.o {P : RP} {S : Nat → Prop} {h h' : Heap} (k : Kp P S h h') : KpO P S h h' := ⟨k.keep, k.le⟩
theorem KpO.add (P : RP) (N : Nat → Prop) (h L : Heap) : KpO P N h (h ++ L) := (Kp.add P N h L).o
theorem KpO.set {P : RP} {N : Nat → Prop} {h h' : Heap} {b : Nat} (k : KpO P N h h') (hb : N b) (o : AObj) : KpO P N h (h'.set b o) :=
  ⟨fun c o' ho n1 n2 => by rw [List.getElem?_set_ne (by rintro rfl; exact n1 hb)]; exact k.1 c o' ho n1 n2, by rw [List.length_set]; exact k.2⟩
theorem LookR.fin {P : RP} {i q km n : Nat} {kn : Kn} {T : Nat → Prop} {row : List Value} {h H : Heap} {R : CR Stm} (eh : Rd P h i 0 0 0) (hq : q < h.length) (hkm : km < h.length) (k : KpO P (fun z => T z ∨ z = q ∨ z = km) h H) (hT : ∀ z, T z → z < h.length) (r : LookR P i q km n kn T row H R) (w : Value) : LookR P i q km n kn T row (AM.finish h w H) R ∧ KpO P (fun z => T z ∨ z = q ∨ z = km) h (AM.finish h w H) := by
  rcases zaj h H w with hf | ⟨hf, hk⟩
  · rw [hf]; exact ⟨r, k⟩
  · rw [hf]
    have g : ∀ b o, b < h.length → H[b]? = some o → h[b]? = some o := fun b o hb ho => by
      rw [← hk, List.getElem?_take, if_pos hb]; exact ho
    have rd : ∀ x a, Rd P H i 0 x a → Rd P h i 0 x a := fun x a e =>
      ⟨g _ _ eh.lr e.hr, g _ _ eh.lc e.hc, eh.sw, eh.sc, eh.le⟩
    refine ⟨?_, fun b o ho _ _ => ho, Nat.le_refl _⟩
    cases R with
    | ok st =>
      obtain ⟨r1, r2, ⟨rm, r3⟩, r4⟩ := r
      exact ⟨r1.keep fun b o hb ho => g b o (hT b hb) ho, rd _ _ r2, ⟨rm, g _ _ hq r3⟩, g _ _ hkm r4⟩
    | bad c a => exact ⟨r.1, rd _ _ r.2⟩
def ydf (P : RP) (kn : Kn) (st : Stm) : Prop := ∀ (hb h : Heap) (i0 i q km n : Nat) (rm : Value) (T : Nat → Prop) (row : List Value), Rd P hb i0 0 0 0 → Rd P h i 0 0 0 → h[q]? = some (.cells [pt P.r, .map (some km), rm, .int .i64 (n : Int)] 0 false) → h[km]? = some (.map (knE kn)) → StP h T row st →
  (∀ z, T z → hb.length ≤ z ∧ z ≠ q ∧ z ≠ km ∧ z < h.length) → hb.length ≤ q → hb.length ≤ km → n < 900000 → (∀ rc gs, st = .lets rc gs → gs.length ≤ 8192) →
  ∃ h', DF FF j7 [pt q, agg row] h = some (tup [], h') ∧ LookR P i q km n kn T row h' (chkS kn n st) ∧ KpO P (fun z => T z ∨ z = q ∨ z = km) h h'
theorem zer (K : Heap) : lenO K nils = some (.int .i64 0, K) := rfl
theorem zmv (k : Ck) : (ckS k == [114, 101, 99]) = false := by cases k <;> rfl
theorem zge (k : Ck) : (ckS k != [101, 109, 112, 116, 121]) = (k != .empty) := by cases k <;> rfl
set_option maxHeartbeats 4000000 in
theorem ybm (P : RP) (kn : Kn) (k : Ck) (x : Ex) (as_ : Bys) : ydf P kn (.chk k x as_) := by
  intro hb h i0 i q km n rm T row eb eh hq hk st hT hqb hkb hn hgs
  obtain ⟨v, rfl, tx⟩ := st
  have lq := (List.getElem?_eq_some_iff.1 hq).1
  have lk := (List.getElem?_eq_some_iff.1 hk).1
  have nq : q ≠ P.r := by rintro rfl; have := eh.hr.symm.trans hq; simp at this
  have nk : km ≠ P.r := by rintro rfl; have := eh.hr.symm.trans hk; simp at this
  have qk : q ≠ km := by rintro rfl; have := hq.symm.trans hk; simp at this
  have : ∃ v' h', DF FF j7 [pt q, agg [str (ckS k), nils, v, str as_]] h = some (v', h') ∧ (v' = tup [] ∧ LookR P i q km n kn T [str (ckS k), nils, v, str as_] h' (chkS kn n (.chk k x as_)) ∧ KpO P (fun z => T z ∨ z = q ∨ z = km) h h') := by
    refine wz zdj ?_
    obtain ⟨bx, _, _, _, _, rfl, hbT, hbx⟩ := tx.root
    obtain ⟨h0, hh0⟩ : ∃ h0, h0 = h ++ [AObj.cells [str (ckS k), nils, pt bx, str as_] 0 false, .map []] := ⟨_, rfl⟩
    have e0 : Rd P h0 i 0 0 0 := by rw [hh0]; exact eh.more _
    have k0 : KpO P (fun _ => False) h h0 := by rw [hh0]; exact KpO.add _ _ _ _
    have g0 : h0[h.length]? = some (.cells [str (ckS k), nils, pt bx, str as_] 0 false) := by rw [hh0]; simp
    have lh0 : h.length < h0.length := by rw [hh0]; simp
    have lr := eh.lr
    have q0 := k0.keep _ _ hq id nq
    have kk0 := k0.keep _ _ hk id nk
    have lq0 := (List.getElem?_eq_some_iff.1 q0).1
    obtain ⟨h1, hh1⟩ : ∃ h1, h1 = h0.set q (.cells [pt P.r, .map (some km), .map none, .int .i64 (n : Int)] 0 false) := ⟨_, rfl⟩
    have e1 : Rd P h1 i 0 0 0 := by rw [hh1]; exact eb.upd e0 hqb _
    have q1 : h1[q]? = some (.cells [pt P.r, .map (some km), .map none, .int .i64 (n : Int)] 0 false) := by rw [hh1, List.getElem?_set_self lq0]
    have kk1 : h1[km]? = some (.map (knE kn)) := by rw [hh1, List.getElem?_set_ne qk]; exact kk0
    have g1 : h1[h.length]? = some (.cells [str (ckS k), nils, pt bx, str as_] 0 false) := by rw [hh1, List.getElem?_set_ne (by omega)]; exact g0
    have k1 : KpO P (fun z => z = q) h h1 := by rw [hh1]; exact KpO.set (N := fun z => z = q) (k0.weak (fun _ _ h => h.elim)) rfl _
    have w1 : Heap.write1 h0 ⟨q, 2, some 0⟩ (.map none) = some h1 := by rw [po q0 (by simp), hh1]; rfl
    have t1 : TreeP h1 T (pt bx) x := tx.keep fun z o hz ho => k1.keep z o ho (hT z hz).2.1 (by have := (hT z hz).1; have := eb.lr; omega)
    obtain ⟨h2, c2, r2, k2⟩ := zg5 P kn [] x false hb h1 i0 i q km n (.map none) T (pt bx) eb e1 ⟨q1, kk1, .inl ⟨rfl, rfl⟩⟩ t1 ⟨fun z hz => (hT z hz).1, fun h => (hT _ h).2.1 rfl, fun h => (hT _ h).2.2.1 rfl, fun b hb => by cases hb⟩ (fun z hz => by have := (hT z hz).2.2.2; have := k1.2; omega)
    have lbT := fun z (hz : T z) => hT z hz
    have g2 := k2.keep _ _ g1 (fun h => by have := (hT _ h).2.2.2; omega) (by omega)
    have q2 := k2.keep _ _ q1 (fun h => (hT _ h).2.1 rfl) nq
    have kk2 := k2.keep _ _ kk1 (fun h => (hT _ h).2.2.1 rfl) nk
    have k12 : KpO P (fun z => T z ∨ z = q ∨ z = km) h h2 := (k1.trans k2.o).weak fun z _ hz => hz.elim (fun h => .inr (.inl h)) .inl
    have rg1 : ∀ j, Heap.read1 h1 ⟨h.length, j, some 0⟩ = ([str (ckS k), nils, pt bx, str as_] : List Value)[j]? := fun j => xz g1
    have rg0 : ∀ j, Heap.read1 h0 ⟨h.length, j, some 0⟩ = ([str (ckS k), nils, pt bx, str as_] : List Value)[j]? := fun j => xz g0
    have rg2 : ∀ j, Heap.read1 h2 ⟨h.length, j, some 0⟩ = ([str (ckS k), nils, pt bx, str as_] : List Value)[j]? := fun j => xz g2
    have rq2 : ∀ j, Heap.read1 h2 ⟨q, j, some 0⟩ = ([pt P.r, .map (some km), .map none, .int .i64 (n : Int)] : List Value)[j]? := fun j => xz q2
    have fa := LookR.fin (R := chkS kn n (.chk k x as_)) (row := [str (ckS k), nils, pt bx, str as_]) (n := n) (kn := kn) eh lq lk k12 (fun z hz => (hT z hz).2.2.2)
    cases hc : chkE kn [] false x with
    | bad ec ea =>
      rw [hc] at r2
      obtain ⟨hc0, ⟨x', tx', hp⟩, e2⟩ := r2
      have hRR : chkS kn n (.chk k x as_) = .bad ec ea := by rw [chkS, hc]
      have ff := fa (by rw [hRR]; exact ⟨hc0, e2⟩)
      obtain ⟨b', op', w', l', r', hpb, _, hbx'⟩ := tx'.root
      have hpb : bx = b' := by simpa using hpb
      subst hpb
      have rx : ∀ j, Heap.read1 h2 ⟨bx, j, some 0⟩ = (vh op' w' x'.pl l' r' x'.set)[j]? := fun j => xz hbx'
      cases he : (k != .empty)
      · simp only [q9, ya, zt, vc, yo, zb, zz, zw, yb, zn, yi, zc, zp, vq, zo, zf, ze, zd, List.set_cons_succ, List.set_cons_zero, O_mv, y3, xj, yy, yg, ye, List.map_cons, List.map_nil, fc, zx, zk, wi, List.cons_append, List.nil_append, List.length_cons, List.length_nil, Nat.reduceAdd, Nat.reduceSub, Nat.zero_add, Bool.not_false, zm, yc, zy, za, yz, yj, w8, xb, z7, zl, xc, zap, zq, zj, zg, zh, List.append_assoc, List.length_append, Nat.add_zero, List.getElem?_cons_zero, List.getElem?_cons_succ, Bool.bne_true, jp, Int.reduceLT, eq_self, yf, zs, yk, va, zhz, decide_false, yf, zs, zen, ← hh0, rg0, rg1, rg2, zer, zfb, zmv, w1, xo, xq, c2, zge, he, wq]
        exact ⟨trivial, ff _⟩
      · cases hs : x'.set
        · simp only [q9, ya, zt, vc, yo, zb, zz, zw, yb, zn, yi, zc, zp, xy, zo, zf, ze, zd, List.set_cons_succ, List.set_cons_zero, O_mv, y3, xj, yy, yg, ye, List.map_cons, List.map_nil, fc, zx, zk, wi, List.cons_append, List.nil_append, List.length_cons, List.length_nil, Nat.reduceAdd, Nat.reduceSub, Nat.zero_add, Bool.not_false, zm, yc, zy, za, yz, yj, w8, xb, z7, zl, xc, zap, zq, zj, zg, zh, List.append_assoc, List.length_append, Nat.add_zero, List.getElem?_cons_zero, List.getElem?_cons_succ, Bool.bne_true, jp, Int.reduceLT, eq_self, yf, zs, yk, va, zhz, decide_false, yf, zs, zen, ← hh0, rg0, rg1, rg2, zer, zfb, zmv, w1, xo, xq, c2, zge, he, rx, zbv, hs, wq]
          exact ⟨trivial, ff _⟩
        · simp only [q9, ya, zt, vc, yo, zb, zz, zw, yb, zn, yi, zc, zp, xy, zo, zf, ze, zd, List.set_cons_succ, List.set_cons_zero, O_mv, y3, xj, yy, yg, ye, List.map_cons, List.map_nil, fc, zx, zk, wi, List.cons_append, List.nil_append, List.length_cons, List.length_nil, Nat.reduceAdd, Nat.reduceSub, Nat.zero_add, Bool.not_false, zm, yc, zy, za, yz, yj, w8, xb, z7, zl, xc, zap, zq, zj, zg, zh, List.append_assoc, List.length_append, Nat.add_zero, List.getElem?_cons_zero, List.getElem?_cons_succ, Bool.bne_true, jp, Int.reduceLT, eq_self, yf, zs, yk, va, zhz, decide_false, yf, zs, zen, ← hh0, rg0, rg1, rg2, zer, zfb, zmv, w1, xo, xq, c2, zge, he, rx, zbv, bj, hs, rq2, zkq e2 hc0, wq]
          exact ⟨trivial, ff _⟩
    | ok x' =>
      rw [hc] at r2
      obtain ⟨tx', hp, e2⟩ := r2
      obtain ⟨b', op', w', l', r', hpb, _, hbx'⟩ := tx'.root
      have hpb : bx = b' := by simpa using hpb
      subst hpb
      have rx : ∀ j, Heap.read1 h2 ⟨bx, j, some 0⟩ = (vh op' w' x'.pl l' r' x'.set)[j]? := fun j => xz hbx'
      cases he : (k != .empty && x'.set)
      · have hRR : chkS kn n (.chk k x as_) = .ok (.chk k x' as_) := by rw [chkS, hc]; simp only [he]; rfl
        have ff := fa (by
          rw [hRR]
          exact ⟨⟨pt bx, rfl, tx'⟩, e2, ⟨_, q2⟩, by simpa [Stm.given] using kk2⟩)
        cases hk : (k != .empty)
        · simp only [q9, ya, zt, vc, yo, zb, zz, zw, yb, zn, yi, zc, zp, vq, zo, zf, ze, zd, List.set_cons_succ, List.set_cons_zero, O_mv, y3, xj, yy, yg, ye, List.map_cons, List.map_nil, fc, zx, zk, wi, List.cons_append, List.nil_append, List.length_cons, List.length_nil, Nat.reduceAdd, Nat.reduceSub, Nat.zero_add, Bool.not_false, zm, yc, zy, za, yz, yj, w8, xb, z7, zl, xc, zap, zq, zj, zg, zh, List.append_assoc, List.length_append, Nat.add_zero, List.getElem?_cons_zero, List.getElem?_cons_succ, Bool.bne_true, jp, Int.reduceLT, eq_self, yf, zs, yk, va, zhz, decide_false, yf, zs, zen, ← hh0, rg0, rg1, rg2, zer, zfb, zmv, w1, xo, xq, c2, zge, hk, wq]
          exact ⟨trivial, ff _⟩
        · rw [hk, Bool.true_and] at he
          simp only [q9, ya, zt, vc, yo, zb, zz, zw, yb, zn, yi, zc, zp, xy, zo, zf, ze, zd, List.set_cons_succ, List.set_cons_zero, O_mv, y3, xj, yy, yg, ye, List.map_cons, List.map_nil, fc, zx, zk, wi, List.cons_append, List.nil_append, List.length_cons, List.length_nil, Nat.reduceAdd, Nat.reduceSub, Nat.zero_add, Bool.not_false, zm, yc, zy, za, yz, yj, w8, xb, z7, zl, xc, zap, zq, zj, zg, zh, List.append_assoc, List.length_append, Nat.add_zero, List.getElem?_cons_zero, List.getElem?_cons_succ, Bool.bne_true, jp, Int.reduceLT, eq_self, yf, zs, yk, va, zhz, decide_false, yf, zs, zen, ← hh0, rg0, rg1, rg2, zer, zfb, zmv, w1, xo, xq, c2, zge, hk, rx, zbv, he, wq]
          exact ⟨trivial, ff _⟩
      · obtain ⟨h3, f3, e3, k3⟩ := zib e2 41 x.pl (by omega)
        simp only [Int.cast_ofNat_Int] at f3
        have hRR : chkS kn n (.chk k x as_) = .bad 41 x.pl := by rw [chkS, hc]; simp only [he]; rfl
        have k13 : KpO P (fun z => T z ∨ z = q ∨ z = km) h h3 := (k12.trans k3.o).weak fun z _ hz => hz.elim id False.elim
        have ff := LookR.fin (R := chkS kn n (.chk k x as_)) (row := [str (ckS k), nils, pt bx, str as_]) (n := n) (kn := kn) eh lq lk k13 (fun z hz => (hT z hz).2.2.2) (by rw [hRR]; exact ⟨by omega, by simpa using e3⟩)
        rw [Bool.and_eq_true] at he
        simp only [q9, ya, zt, vc, yo, zb, zz, zw, yb, zn, yi, zc, zp, xy, zo, zf, ze, zd, List.set_cons_succ, List.set_cons_zero, O_mv, y3, xj, yy, yg, ye, List.map_cons, List.map_nil, fc, zx, zk, wi, List.cons_append, List.nil_append, List.length_cons, List.length_nil, Nat.reduceAdd, Nat.reduceSub, Nat.zero_add, Bool.not_false, zm, yc, zy, za, yz, yj, w8, xb, z7, zl, xc, zap, zq, zj, zg, zh, List.append_assoc, List.length_append, Nat.add_zero, List.getElem?_cons_zero, List.getElem?_cons_succ, Bool.bne_true, jp, Int.reduceLT, eq_self, yf, zs, yk, va, zhz, decide_false, yf, zs, zen, ← hh0, rg0, rg1, rg2, zer, zfb, zmv, w1, xo, xq, c2, zge, he.1, rx, zbv, bj, hp, he.2, rq2, f3, wq]
        exact ⟨trivial, ff _⟩
  obtain ⟨v', h', r, rfl, g⟩ := this
  exact ⟨h', r, g⟩
end Go.Proofs.YtljdbheclfaloaaGreatDoor.AM
