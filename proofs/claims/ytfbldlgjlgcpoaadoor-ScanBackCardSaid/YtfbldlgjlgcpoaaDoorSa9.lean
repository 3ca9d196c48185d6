/-
  The words of a text: cut again, and where they stand. Pure.
  Conditions: none.
-/
import Derived.Test.YtfbldlgjlgcpoaaDoorSa8
namespace Go.Proofs.YtfbldlgjlgcpoaaDoor.AM
open Go.RowKit
set_option linter.unusedSimpArgs false
set_option linter.unusedVariables false

/-- A word that was cut from some text. -/
def GoodT (t : Tok) : Prop := ∃ (r : List UInt8) (k : Nat), skipV r = .no ∧ wordV r = .word t.kind k t.n ∧ t.text = r.take k
def sumT : List Tok → Nat
  | [] => 0
  | t :: m => t.text.length + sumT m
theorem pre_ok {r : Res} {a m : List Tok} (h : r.pre a = .ok m) : ∃ m', r = .ok m' ∧ m = a ++ m' := by
  cases r with
  | ok m' => cases h; exact ⟨m', rfl, rfl⟩
  | bad c x => cases h
theorem scan_good : ∀ (n : Nat) (s : List UInt8) (a : Nat) (m : List Tok), s.length ≤ n → scanR s a = .ok m → (∀ t ∈ m, GoodT t ∧ 1 ≤ t.text.length) ∧ sumT m ≤ s.length
  | 0, s, a, m, hn, h => by
    have : s = [] := List.eq_nil_of_length_eq_zero (by omega)
    subst this
    rw [scanR_nil] at h; cases h
    exact ⟨fun t ht => (List.not_mem_nil ht).elim, by simp [sumT]⟩
  | n + 1, s, a, m, hn, h => by
    by_cases hs : s = []
    · subst hs; rw [scanR_nil] at h; cases h
      exact ⟨fun t ht => (List.not_mem_nil ht).elim, by simp [sumT]⟩
    · rw [scanR_eq hs] at h
      cases hk : skipV s with
      | go k =>
        rw [hk] at h
        have hp := skipV_pos hk
        obtain ⟨h1, h2⟩ := scan_good n _ _ m (by simp; omega) h
        simp only [List.length_drop] at h2
        exact ⟨h1, by omega⟩
      | err => rw [hk] at h; cases h
      | no =>
        rw [hk] at h
        cases hw : wordV s with
        | bad c => rw [hw] at h; cases h
        | word kd k x =>
          rw [hw] at h
          have hp := wordV_pos hw
          obtain ⟨m', h1, rfl⟩ := pre_ok h
          obtain ⟨h2, h3⟩ := scan_good n _ _ m' (by simp; omega) h1
          simp only [List.length_drop] at h3
          refine ⟨fun t ht => ?_, ?_⟩
          · rcases List.mem_append.1 ht with ht | ht
            · simp at ht; subst ht
              exact ⟨⟨s, k, hk, hw, rfl⟩, by simp; omega⟩
            · exact h2 t ht
          · simp [sumT]; omega
theorem len_le_sumT : ∀ m : List Tok, (∀ t ∈ m, 1 ≤ t.text.length) → m.length ≤ sumT m
  | [], _ => by simp
  | t :: m, h => by
    have := len_le_sumT m fun x hx => h x (by simp [hx])
    have := h t (by simp)
    simp [sumT]; omega
/-- What may stand behind a word. -/
def Apart (X : List UInt8) : Prop := X = [] ∨ ∃ Y, X = 32 :: Y
theorem row_again {p : Int → Bool} (hp : p 32 = false) {X : List UInt8} (hX : Apart X) : ∀ s : List UInt8, rowN p (s.take (rowN p s) ++ X) = rowN p s
  | [] => by
    rcases hX with rfl | ⟨Y, rfl⟩
    · simp [rowN]
    · simp [rowN, hp]
  | c :: s => by
    rw [rowN]
    by_cases hc : p (c.toNat : Int) = true
    · rw [if_pos hc, List.take_succ_cons, List.cons_append, rowN, if_pos hc, row_again hp hX s]
    · rw [if_neg hc, List.take_zero, List.nil_append]
      rcases hX with rfl | ⟨Y, rfl⟩
      · rfl
      · simp [rowN, hp]
theorem word_again {r : List UInt8} {kd k : Nat} {n : Int} (hs : skipV r = .no) (hw : wordV r = .word kd k n) {X : List UInt8} (hX : Apart X) : skipV (r.take k ++ X) = .no ∧ wordV (r.take k ++ X) = .word kd k n := by
  obtain ⟨hk1, hk2⟩ := wordV_pos hw
  cases r with
  | nil => cases hw
  | cons c r =>
    obtain ⟨k, rfl⟩ : ∃ k', k = k' + 1 := ⟨k - 1, by omega⟩
    have hc : (c :: r).take (k + 1) ++ X = c :: (r.take k ++ X) := by rw [List.take_succ_cons, List.cons_append]
    -- the first byte is no blank
    have hb : ¬ (blkB (c.toNat : Int) = true) := by
      intro hb; rw [skipV, if_pos hb] at hs; cases hs
    have hno : ∀ x y : UInt8, (x = 40 ∨ x = 47 ∨ x = 92) → (y ≠ 32) → (k = 0 ∨ [x, y].isPrefixOf (c :: r) = false ∨ 1 ≤ k) → (k = 0 → True) → True := fun _ _ _ _ _ _ => trivial
    -- a prefix of two behind a cut
    have two : ∀ x y : UInt8, y ≠ 32 → [x, y].isPrefixOf (c :: (r.take k ++ X)) = if 1 ≤ k then [x, y].isPrefixOf (c :: r) else false := by
      intro x y hy
      cases k with
      | zero =>
        simp only [List.take_zero, List.nil_append]
        rw [if_neg (by omega)]
        rcases hX with rfl | ⟨Y, rfl⟩
        · simp [List.isPrefixOf]
        · simp [List.isPrefixOf]; intro _; exact hy
      | succ k =>
        rw [if_pos (by omega)]
        cases r with
        | nil => simp at hk2
        | cons d r => simp [List.isPrefixOf]
    have hskip : skipV (c :: (r.take k ++ X)) = .no := by
      rw [skipV, if_neg hb]
      have h40 : [40, 42].isPrefixOf (c :: r) = false := by
        rw [← Bool.not_eq_true]; intro hp
        rw [skipV, if_neg hb, if_pos hp] at hs
        split at hs <;> cases hs
      rw [two 40 42 (by decide), h40]
      simp
    rw [hc]
    refine ⟨hskip, ?_⟩
    rw [← hc]
    rw [wordV] at hw
    simp only [List.take_succ_cons, List.cons_append] at *
    rw [wordV]
    by_cases g1 : digV (c.toNat : Int) = true
    · rw [if_pos g1] at hw ⊢
      cases g2 : numV ((c :: r).take (rowN numB (c :: r))) with
      | none => rw [g2] at hw; cases hw
      | some u =>
        rw [g2] at hw
        have e := row_again (p := numB) (by decide) hX (c :: r)
        have hk : rowN numB (c :: r) = k + 1 := by injection hw
        rw [hk] at e g2 hw
        rw [List.take_succ_cons, List.cons_append] at e
        rw [e]
        have e2 : (c :: (r.take k ++ X)).take (k + 1) = (c :: r).take (k + 1) := by
          rw [List.take_succ_cons, List.take_succ_cons]
          congr 1
          rw [List.take_append_of_le_length (by simp at hk2 ⊢; omega), List.take_take, Nat.min_self]
        rw [e2, g2]; exact hw
    · rw [if_neg g1] at hw ⊢
      by_cases g2 : (letV (c.toNat : Int) || (c.toNat : Int) == 95) = true
      · rw [if_pos g2] at hw ⊢
        have e := row_again (p := namB) (by decide) hX (c :: r)
        have hk : rowN namB (c :: r) = k + 1 := by injection hw
        rw [hk] at e hw
        rw [List.take_succ_cons, List.cons_append] at e
        rw [e]; exact hw
      · rw [if_neg g2] at hw ⊢
        rw [two 47 92 (by decide), two 92 47 (by decide)]
        by_cases g3 : ([47, 92].isPrefixOf (c :: r) || [92, 47].isPrefixOf (c :: r)) = true
        · rw [if_pos g3] at hw
          have hk : 2 = k + 1 := by injection hw
          have hk1 : 1 ≤ k := by omega
          simp only [hk1, if_true]
          rw [if_pos g3]; exact hw
        · rw [if_neg g3] at hw
          by_cases g4 : markB c = true
          · rw [if_pos g4] at hw ⊢
            have hk : 1 = k + 1 := by injection hw
            have hk1 : ¬ 1 ≤ k := by omega
            simp only [hk1, if_false, Bool.or_self, Bool.false_eq_true]
            exact hw
          · rw [if_neg g4] at hw; cases hw
/-- Words, each behind a blank. -/
def joinT : List Tok → List UInt8
  | [] => []
  | t :: m => 32 :: (t.text ++ joinT m)
theorem joinT_apart (m : List Tok) : Apart (joinT m) := by
  cases m with
  | nil => exact .inl rfl
  | cons t m => exact .inr ⟨_, rfl⟩
theorem joinT_len : ∀ m : List Tok, (joinT m).length = m.length + sumT m
  | [] => rfl
  | t :: m => by simp [joinT, sumT, joinT_len m]; omega
theorem joinT_append : ∀ (m : List Tok) (t : Tok), joinT (m ++ [t]) = joinT m ++ (32 :: t.text)
  | [], t => by simp [joinT]
  | u :: m, t => by simp [joinT, joinT_append m t]
def sameT (a b : Tok) : Prop := a.kind = b.kind ∧ a.text = b.text ∧ a.n = b.n
theorem scan_again : ∀ (m : List Tok) (a : Nat), (∀ t ∈ m, GoodT t) → ∃ m', scanR (joinT m) a = .ok m' ∧ m'.length = m.length ∧ ∀ (i : Nat) (h1 : i < m'.length) (h2 : i < m.length), sameT m'[i] m[i]
  | [], a, _ => ⟨[], rfl, rfl, fun i h1 _ => by simp at h1⟩
  | t :: m, a, hg => by
    obtain ⟨r, k, g1, g2, g3⟩ := hg t (by simp)
    obtain ⟨w1, w2⟩ := word_again g1 g2 (joinT_apart m)
    rw [← g3] at w1 w2
    obtain ⟨hk1, hk2⟩ := wordV_pos g2
    have htl : t.text.length = k := by rw [g3]; simp; omega
    obtain ⟨m', h1, h2, h3⟩ := scan_again m (a + 1 + k) fun x hx => hg x (by simp [hx])
    have e1 : scanR (joinT (t :: m)) a = scanR (t.text ++ joinT m) (a + 1) := by
      rw [joinT, scanR_eq (by simp)]
      have : skipV (32 :: (t.text ++ joinT m)) = .go 1 := by rw [skipV, if_pos (by decide)]
      rw [this]; rfl
    have hne : t.text ++ joinT m ≠ [] := by
      intro e; have e' := congrArg List.length e; rw [List.length_append] at e'; simp only [List.length_nil] at e'; omega
    have e2 : scanR (t.text ++ joinT m) (a + 1) = (scanR (joinT m) (a + 1 + k)).pre [⟨t.kind, t.text, t.n, a + 1⟩] := by
      rw [scanR_eq hne, w1]
      simp only [w2]
      rw [← htl, List.drop_left, List.take_left]
    refine ⟨_, by rw [e1, e2, h1]; rfl, by simp [h2], fun i hi1 hi2 => ?_⟩
    cases i with
    | zero => exact ⟨rfl, rfl, rfl⟩
    | succ i => exact h3 i (by simpa using hi1) (by simpa using hi2)
theorem back_law {l : List UInt8} (hl : l.length ≤ 4000) {m : List Tok} (h : tokensV l = .ok m) : ∃ m', tokensV (joinT m) = .ok m' ∧ m'.length = m.length ∧ ∀ (i : Nat) (h1 : i < m'.length) (h2 : i < m.length), sameT m'[i] m[i] := by
  unfold tokensV at h
  rw [if_neg (by omega)] at h
  obtain ⟨h1, h2⟩ := scan_good l.length l 0 m (Nat.le_refl _) h
  have h3 := len_le_sumT m fun t ht => (h1 t ht).2
  have h4 := joinT_len m
  unfold tokensV
  rw [if_neg (by omega)]
  exact scan_again m 0 fun t ht => (h1 t ht).1
/-! Where words stand. -/
theorem remK_take : ∀ (x : List UInt8) (j : Nat), remK x + 2 ≤ j → remK x + 1 < x.length → remK (x.take j) = remK x
  | [], j, _, h => by simp [remK] at h
  | [c], j, _, h => by simp [remK] at h
  | c :: d :: x, j, hj, hx => by
    rw [remK] at hj hx ⊢
    obtain ⟨j, rfl⟩ : ∃ j', j = j' + 2 := ⟨j - 2, by split at hj <;> omega⟩
    rw [List.take_succ_cons, List.take_succ_cons, remK]
    by_cases h0 : ((c.toNat : Int) == 42 && (d.toNat : Int) == 41) = true
    · rw [if_pos h0, if_pos h0]
    · rw [if_neg h0] at hj hx ⊢
      rw [if_neg h0]
      have := remK_take (d :: x) (j + 1) (by omega) (by simp at hx ⊢; omega)
      rw [List.take_succ_cons] at this
      rw [this]
theorem skipV_take {x : List UInt8} {k j : Nat} (h : skipV x = .go k) (hj : k ≤ j) : skipV (x.take j) = .go k := by
  have hp := skipV_pos h
  cases x with
  | nil => cases h
  | cons c x =>
    obtain ⟨j, rfl⟩ : ∃ j', j = j' + 1 := ⟨j - 1, by omega⟩
    rw [List.take_succ_cons]
    rw [skipV] at h ⊢
    by_cases hb : blkB (c.toNat : Int) = true
    · rw [if_pos hb] at h ⊢; exact h
    · rw [if_neg hb] at h ⊢
      by_cases h2 : [40, 42].isPrefixOf (c :: x) = true
      · rw [if_pos h2] at h
        by_cases h3 : remK (x.drop 1) + 1 < (x.drop 1).length
        · rw [if_pos h3] at h
          have hk : remK (x.drop 1) + 4 = k := by injection h
          have h4 : [40, 42].isPrefixOf (c :: x.take j) = true := by
            cases x with
            | nil => simp [List.isPrefixOf] at h2
            | cons d x =>
              obtain ⟨j, rfl⟩ : ∃ j', j = j' + 1 := ⟨j - 1, by omega⟩
              simpa [List.isPrefixOf] using h2
          rw [if_pos h4]
          have h5 : (x.take j).drop 1 = (x.drop 1).take (j - 1) := by rw [List.drop_take]
          rw [h5, remK_take _ _ (by omega) h3, if_pos (by rw [List.length_take]; omega)]
          exact h
        · rw [if_neg h3] at h; cases h
      · rw [if_neg h2] at h; cases h
theorem place_law : ∀ (n : Nat) (l : List UInt8) (e : Nat) (t : Tok) (m : List Tok), l.length - e ≤ n → e ≤ l.length → scanR (l.drop e) e = .ok (t :: m) →
    e ≤ t.at_ ∧ t.at_ + t.text.length ≤ l.length ∧ 1 ≤ t.text.length ∧ (l.drop t.at_).take t.text.length = t.text ∧ (∀ b, scanR ((l.drop e).take (t.at_ - e)) b = .ok []) ∧ scanR (l.drop (t.at_ + t.text.length)) (t.at_ + t.text.length) = .ok m
  | 0, l, e, t, m, hn, he, h => by
    rw [List.drop_eq_nil_of_le (by omega), scanR_nil] at h; cases h
  | n + 1, l, e, t, m, hn, he, h => by
    by_cases hel : e < l.length
    · have h0 := h
      rw [scanR_eq (drop_ne hel)] at h
      cases hk : skipV (l.drop e) with
      | go k =>
        have hp := skipV_pos hk
        simp only [List.length_drop] at hp
        rw [scanR_go hel hk] at h0
        obtain ⟨q1, q2, q3, q4, q5, q6⟩ := place_law n l (e + k) t m (by omega) (by omega) h0
        refine ⟨by omega, q2, q3, q4, fun b => ?_, q6⟩
        have hs := skipV_take hk (j := t.at_ - e) (by omega)
        have hne : (l.drop e).take (t.at_ - e) ≠ [] := by
          intro e0; rw [e0] at hs; cases hs
        rw [scanR_eq hne, hs]
        simp only
        rw [List.drop_take, List.drop_drop, show t.at_ - e - k = t.at_ - (e + k) from by omega]
        exact q5 _
      | err => rw [hk] at h; cases h
      | no =>
        cases hw : wordV (l.drop e) with
        | bad c => rw [hk, hw] at h; cases h
        | word kd k x =>
          have hp := wordV_pos hw
          simp only [List.length_drop] at hp
          rw [scanR_word hel hk hw] at h0
          obtain ⟨m', h1, h2⟩ := pre_ok h0
          simp at h2
          obtain ⟨rfl, rfl⟩ := h2
          have htl : ((l.drop e).take k).length = k := by simp; omega
          simp only [htl]
          exact ⟨Nat.le_refl _, by omega, by omega, trivial, fun b => by rw [Nat.sub_self, List.take_zero]; rfl, h1⟩
    · rw [List.drop_eq_nil_of_le (by omega), scanR_nil] at h; cases h
theorem bad_law : ∀ (n : Nat) (l : List UInt8) (e : Nat) (c a : Nat), l.length - e ≤ n → e ≤ l.length → scanR (l.drop e) e = .bad c a → a < l.length ∧ c ≠ 0
  | 0, l, e, c, a, hn, he, h => by
    rw [List.drop_eq_nil_of_le (by omega), scanR_nil] at h; cases h
  | n + 1, l, e, c, a, hn, he, h => by
    by_cases hel : e < l.length
    · have h0 := h
      rw [scanR_eq (drop_ne hel)] at h
      cases hk : skipV (l.drop e) with
      | go k =>
        have hp := skipV_pos hk
        simp only [List.length_drop] at hp
        rw [scanR_go hel hk] at h0
        exact bad_law n l (e + k) c a (by omega) (by omega) h0
      | err => rw [hk] at h; cases h; exact ⟨hel, by omega⟩
      | no =>
        cases hw : wordV (l.drop e) with
        | bad c' =>
          rw [hk, hw] at h; cases h
          refine ⟨hel, ?_⟩
          rw [wordV_at hel] at hw
          intro hc; subst hc
          split at hw
          · split at hw <;> cases hw
          · split at hw
            · cases hw
            · split at hw
              · cases hw
              · split at hw <;> cases hw
        | word kd k x =>
          have hp := wordV_pos hw
          simp only [List.length_drop] at hp
          rw [scanR_word hel hk hw] at h0
          cases hr : scanR (l.drop (e + k)) (e + k) with
          | ok m => rw [hr] at h0; cases h0
          | bad c' a' =>
            rw [hr] at h0; cases h0
            exact bad_law n l (e + k) _ _ (by omega) (by omega) hr
    · rw [List.drop_eq_nil_of_le (by omega), scanR_nil] at h; cases h
end Go.Proofs.YtfbldlgjlgcpoaaDoor.AM
