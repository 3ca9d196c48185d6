/-
  Lists of paths, grown path by path.
  Conditions: sizes below 2^40.
-/
import Derived.Test.YtjodnadlplicmaaFa4
namespace Go.Proofs.Ytjodnadlplicmaa.AM
open Go.RowKit
set_option linter.unusedSimpArgs false
set_option linter.unusedVariables false

theorem Own.shape {h H : Heap} {s : Value} {c : Nat} {rows : List (List Value)} (e : Own h H s c rows) : ∃ a n c', s = .slice a n c' := by
  rcases e with ⟨⟨rfl, _⟩ | ⟨b, ver, _, rfl, _⟩, _⟩
  · exact ⟨_, _, _, rfl⟩
  · exact ⟨_, _, _, rfl⟩
/-- Nothing is lost. -/
def Kept (H H' : Heap) : Prop := ∀ (i : Nat) (o : AObj), H[i]? = some o → H'[i]? = some o
theorem Kept.refl (H : Heap) : Kept H H := fun _ _ h => h
theorem Kept.trans {A B C : Heap} (e : Kept A B) (f : Kept B C) : Kept A C := fun i o h => f i o (e i o h)
theorem Kept.more (H L : Heap) : Kept H (H ++ L) := fun i o h => by rw [List.getElem?_append_left (List.getElem?_eq_some_iff.1 h).1]; exact h
theorem Pre.kept {h H : Heap} (p : Pre h H) : Kept h H := by obtain ⟨L, rfl⟩ := p; exact Kept.more h L
theorem Own.kept {h H H' : Heap} {s : Value} {c : Nat} {rows : List (List Value)} (e : Own h H s c rows) (k : Kept H H') : Own h H' s c rows := e.keep fun i _ o ho => k i o ho
/-- A list of paths, each alone in its object. -/
def PL (h0 H : Heap) (v : Value) (L : List (List Int)) : Prop :=
  ∃ vs : List Value, Own h0 H v 1 (vs.map fun x => [x]) ∧ vs.length = L.length ∧
   (∀ (i : Nat) x l, vs[i]? = some x → L[i]? = some l → Own h0 H x 1 (l.map intR)) ∧
   (∀ (i : Nat) x b, vs[i]? = some x → blk x = some b → blk v ≠ some b) ∧
   (∀ (i j : Nat) x y b, vs[i]? = some x → vs[j]? = some y → blk x = some b → blk y = some b → i = j)
theorem PL.nil (h0 H : Heap) : PL h0 H nils [] := ⟨[], Own.nil _ _ _, rfl, by simp, by simp, by simp⟩
section
variable {h0 H H' : Heap} {v : Value} {L : List (List Int)}
theorem PL.kept (e : PL h0 H v L) (k : Kept H H') : PL h0 H' v L := by
  obtain ⟨vs, e1, e2, e3, e4, e5⟩ := e
  exact ⟨vs, e1.kept k, e2, fun i x l hx hl => (e3 i x l hx hl).kept k, e4, e5⟩
theorem PL.len (e : PL h0 H v L) (K : Heap) : lenO K v = some (.int .i64 L.length, K) := by
  obtain ⟨vs, e1, e2, _⟩ := e
  rw [e1.len, List.length_map, e2]
theorem PL.weak {h1 : Heap} (e : PL h0 H v L) (hl : h1.length ≤ h0.length) : PL h1 H v L := by
  obtain ⟨vs, e1, e2, e3, e4, e5⟩ := e
  exact ⟨vs, e1.weak hl, e2, fun i x l hx hl' => (e3 i x l hx hl').weak hl, e4, e5⟩
theorem PL.lt (e : PL h0 H v L) {b : Nat} (hb : blk v = some b) : h0.length ≤ b ∧ b < H.length := by
  obtain ⟨vs, e1, _⟩ := e; exact e1.lt hb
theorem PL.shape (e : PL h0 H v L) : ∃ a n c, v = .slice a n c := by obtain ⟨vs, e1, _⟩ := e; exact e1.shape
/-- One more path. -/
theorem PL.push (e : PL h0 H v L) (k : Kept H H') (hl : H.length ≤ H'.length) (p0 : h0.length ≤ H.length) (p : Pre h0 H') {x : Value} {l : List Int} (hx : Own H H' x 1 (l.map intR)) (hroom : L.length < 1099511627776) :
    ∃ v' K, appendTo (H' ++ [.cells [x] 0 false]) 1 24 v (srcOf (H' ++ [.cells [x] 0 false]) 1 (.slice (some ⟨H'.length, 0, some 0⟩) 1 1)) = some (v', K) ∧ PL h0 K v' (L ++ [l]) ∧ Pre h0 K ∧ H'.length ≤ K.length ∧
      (∀ (i : Nat) (o : AObj), H'[i]? = some o → blk v ≠ some i → K[i]? = some o) ∧ (blk v' = blk v ∨ ∃ i, blk v' = some i ∧ H'.length ≤ i) := by
  obtain ⟨vs, e1, e2, e3, e4, e5⟩ := e
  obtain ⟨v', K, q1, q2, q3, q4, q5, q6⟩ := (e1.kept k).push p (row := [x]) (bytes := 24) rfl (by rw [List.length_map, e2]; unfold roomFor; omega)
  refine ⟨v', K, q1, ⟨vs ++ [x], by rw [List.map_append]; exact q2, by simp [e2], ?_, ?_, ?_⟩, q3, q4, q5, q6⟩
  · intro i y m hy hm
    by_cases hi : i < vs.length
    · rw [List.getElem?_append_left hi] at hy
      rw [List.getElem?_append_left (by omega)] at hm
      refine ((e3 i y m hy hm).kept k).keep fun b hb o ho => q5 b o ho ?_
      exact e4 i y b hy hb
    · rw [List.getElem?_append_right (by omega)] at hy hm
      have hi2 : i - vs.length = 0 := by
        rcases Nat.lt_or_ge (i - vs.length) 1 with h | h
        · omega
        · rw [List.getElem?_eq_none (by simpa using h)] at hy; cases hy
      rw [hi2] at hy
      rw [← e2, hi2] at hm
      cases hy; cases hm
      refine (hx.weak p0).keep fun b hb o ho => q5 b o ho ?_
      intro hv
      have h1 := (hx.lt hb).1
      have h2 := (e1.lt hv).2
      omega
  · intro i y b hy hb
    rcases q6 with q6 | ⟨j, q6, q7⟩
    · rw [q6]
      by_cases hi : i < vs.length
      · rw [List.getElem?_append_left hi] at hy
        exact e4 i y b hy hb
      · rw [List.getElem?_append_right (by omega)] at hy
        have hi2 : i - vs.length = 0 := by
          rcases Nat.lt_or_ge (i - vs.length) 1 with h | h
          · omega
          · rw [List.getElem?_eq_none (by simpa using h)] at hy; cases hy
        rw [hi2] at hy; cases hy
        intro hv
        have h1 := (hx.lt hb).1
        have h2 := (e1.lt hv).2
        omega
    · rw [q6]
      intro hj
      have : j = b := by simpa using hj
      subst this
      by_cases hi : i < vs.length
      · rw [List.getElem?_append_left hi] at hy
        have hm : i < L.length := by omega
        have h2 := ((e3 i y L[i] hy (List.getElem?_eq_getElem hm)).lt hb).2
        omega
      · rw [List.getElem?_append_right (by omega)] at hy
        have hi2 : i - vs.length = 0 := by
          rcases Nat.lt_or_ge (i - vs.length) 1 with h | h
          · omega
          · rw [List.getElem?_eq_none (by simpa using h)] at hy; cases hy
        rw [hi2] at hy; cases hy
        have h2 := (hx.lt hb).2
        omega
  · intro i j y z b hy hz hby hbz
    have old : ∀ i y, i < vs.length → (vs ++ [x])[i]? = some y → blk y = some b → vs[i]? = some y ∧ b < H.length := by
      intro i y hi hy hb
      rw [List.getElem?_append_left hi] at hy
      have hm : i < L.length := by omega
      exact ⟨hy, ((e3 i y L[i] hy (List.getElem?_eq_getElem hm)).lt hb).2⟩
    have new : ∀ i y, ¬ i < vs.length → (vs ++ [x])[i]? = some y → blk y = some b → i = vs.length ∧ H.length ≤ b := by
      intro i y hi hy hb
      rw [List.getElem?_append_right (by omega)] at hy
      have hi2 : i - vs.length = 0 := by
        rcases Nat.lt_or_ge (i - vs.length) 1 with h | h
        · omega
        · rw [List.getElem?_eq_none (by simpa using h)] at hy; cases hy
      rw [hi2] at hy; cases hy
      exact ⟨by omega, (hx.lt hb).1⟩
    by_cases hi : i < vs.length
    · obtain ⟨a1, a2⟩ := old i y hi hy hby
      by_cases hj : j < vs.length
      · obtain ⟨b1, b2⟩ := old j z hj hz hbz
        exact e5 i j y z b a1 b1 hby hbz
      · obtain ⟨b1, b2⟩ := new j z hj hz hbz; omega
    · obtain ⟨a1, a2⟩ := new i y hi hy hby
      by_cases hj : j < vs.length
      · obtain ⟨b1, b2⟩ := old j z hj hz hbz; omega
      · obtain ⟨b1, b2⟩ := new j z hj hz hbz; omega
end
end Go.Proofs.Ytjodnadlplicmaa.AM
