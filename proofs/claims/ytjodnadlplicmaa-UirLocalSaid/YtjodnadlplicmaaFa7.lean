/-
  Lists of paths that keep clear of given objects; slices cloned; closures called.
  Conditions: sizes below 2^40.
-/
import Derived.Test.YtjodnadlplicmaaFa6
namespace Go.Proofs.Ytjodnadlplicmaa.AM
open Go.RowKit
set_option linter.unusedSimpArgs false
set_option linter.unusedVariables false

/-- A list of paths, each alone in its object, clear of N. -/
def PN (N : Nat → Prop) (h0 H : Heap) (v : Value) (L : List (List Int)) : Prop :=
  ∃ vs : List Value, Own h0 H v 1 (vs.map fun x => [x]) ∧ vs.length = L.length ∧
   (∀ (i : Nat) x l, vs[i]? = some x → L[i]? = some l → Own h0 H x 1 (l.map intR)) ∧
   (∀ (i : Nat) x b, vs[i]? = some x → blk x = some b → blk v ≠ some b) ∧
   (∀ (i j : Nat) x y b, vs[i]? = some x → vs[j]? = some y → blk x = some b → blk y = some b → i = j) ∧
   (∀ b, N b → blk v ≠ some b) ∧ (∀ (i : Nat) x b, N b → vs[i]? = some x → blk x ≠ some b)
theorem PN.nil (N : Nat → Prop) (h0 H : Heap) : PN N h0 H nils [] := ⟨[], Own.nil _ _ _, rfl, by simp, by simp, by simp, fun b _ => by simp [blk, nils], by simp⟩
section
variable {N : Nat → Prop} {h0 H H' : Heap} {v : Value} {L : List (List Int)}
theorem PN.pl (e : PN N h0 H v L) : PL h0 H v L := by
  obtain ⟨vs, e1, e2, e3, e4, e5, _⟩ := e
  exact ⟨vs, e1, e2, e3, e4, e5⟩
theorem PN.grow {N' : Nat → Prop} (e : PN N h0 H v L) (hN : ∀ b, N' b → N b ∨ H.length ≤ b) : PN N' h0 H v L := by
  obtain ⟨vs, e1, e2, e3, e4, e5, e6, e7⟩ := e
  refine ⟨vs, e1, e2, e3, e4, e5, fun b hb hv => ?_, fun i x b hb hx hxb => ?_⟩
  · rcases hN b hb with h | h
    · exact e6 b h hv
    · have := (e1.lt hv).2; omega
  · rcases hN b hb with h | h
    · exact e7 i x b h hx hxb
    · have hi : i < L.length := by rw [← e2]; exact (List.getElem?_eq_some_iff.1 hx).1
      have := ((e3 i x L[i] hx (List.getElem?_eq_getElem hi)).lt hxb).2; omega
/-- Only what is clear of it was written. -/
theorem PN.keep (e : PN N h0 H v L) (k : ∀ (i : Nat) (o : AObj), ¬ N i → H[i]? = some o → H'[i]? = some o) : PN N h0 H' v L := by
  obtain ⟨vs, e1, e2, e3, e4, e5, e6, e7⟩ := e
  exact ⟨vs, e1.keep fun b hb o ho => k b o (fun h => e6 b h hb) ho, e2, fun i x l hx hl => (e3 i x l hx hl).keep fun b hb o ho => k b o (fun h => e7 i x b h hx hb) ho, e4, e5, e6, e7⟩
theorem PN.len (e : PN N h0 H v L) (K : Heap) : lenO K v = some (.int .i64 L.length, K) := e.pl.len K
theorem PN.shape (e : PN N h0 H v L) : ∃ a n c, v = .slice a n c := e.pl.shape
theorem PN.clear (e : PN N h0 H v L) {b : Nat} (hb : N b) : blk v ≠ some b := by obtain ⟨vs, _, _, _, _, _, e6, _⟩ := e; exact e6 b hb
theorem PN.lt (e : PN N h0 H v L) {b : Nat} (hb : blk v = some b) : h0.length ≤ b ∧ b < H.length := e.pl.lt hb
theorem last_is {α : Type} {vs : List α} {x y : α} {i : Nat} (hi : ¬ i < vs.length) (hy : (vs ++ [x])[i]? = some y) : i = vs.length ∧ y = x := by
  rw [List.getElem?_append_right (by omega)] at hy
  have hi2 : i - vs.length = 0 := by
    rcases Nat.lt_or_ge (i - vs.length) 1 with h | h
    · omega
    · rw [List.getElem?_eq_none (by simpa using h)] at hy; cases hy
  rw [hi2] at hy; cases hy
  exact ⟨by omega, rfl⟩
/-- One more path. -/
theorem PN.push {x : Value} {l : List Int} (e : PN (fun b => N b ∨ blk x = some b) h0 H v L) (hN : ∀ b, N b → b < H.length) (hx' : ∀ b, N b → blk x ≠ some b) (p : Pre h0 H) (hx : Own h0 H x 1 (l.map intR)) (hroom : L.length < 1099511627776) :
    ∃ v' K, appendTo (H ++ [.cells [x] 0 false]) 1 24 v (srcOf (H ++ [.cells [x] 0 false]) 1 (.slice (some ⟨H.length, 0, some 0⟩) 1 1)) = some (v', K) ∧ PN N h0 K v' (L ++ [l]) ∧ Pre h0 K ∧ H.length ≤ K.length ∧
      (∀ (i : Nat) (o : AObj), H[i]? = some o → blk v ≠ some i → K[i]? = some o) ∧ (blk v' = blk v ∨ ∃ i, blk v' = some i ∧ H.length ≤ i) := by
  obtain ⟨vs, e1, e2, e3, e4, e5, e6, e7⟩ := e
  obtain ⟨v', K, q1, q2, q3, q4, q5, q6⟩ := e1.push p (row := [x]) (bytes := 24) rfl (by rw [List.length_map, e2]; unfold roomFor; omega)
  have old : ∀ (i : Nat) y, i < vs.length → (vs ++ [x])[i]? = some y → vs[i]? = some y := fun i y hi hy => by rwa [List.getElem?_append_left hi] at hy
  have lt : ∀ (i : Nat) y b, (vs ++ [x])[i]? = some y → blk y = some b → b < H.length := by
    intro i y b hy hb
    by_cases hi : i < vs.length
    · have hm : i < L.length := by omega
      exact ((e3 i y L[i] (old i y hi hy) (List.getElem?_eq_getElem hm)).lt hb).2
    · obtain ⟨_, rfl⟩ := last_is hi hy
      exact (hx.lt hb).2
  have hv : ∀ (i : Nat) y b, (vs ++ [x])[i]? = some y → blk y = some b → blk v ≠ some b := by
    intro i y b hy hb
    by_cases hi : i < vs.length
    · exact e4 i y b (old i y hi hy) hb
    · obtain ⟨_, rfl⟩ := last_is hi hy
      exact e6 b (.inr hb)
  refine ⟨v', K, q1, ⟨vs ++ [x], by rw [List.map_append]; exact q2, by simp [e2], ?_, ?_, ?_, ?_, ?_⟩, q3, q4, q5, q6⟩
  · intro i y m hy hm
    by_cases hi : i < vs.length
    · rw [List.getElem?_append_left (by omega)] at hm
      exact (e3 i y m (old i y hi hy) hm).keep fun b hb o ho => q5 b o ho (hv i y b hy hb)
    · obtain ⟨h1, rfl⟩ := last_is hi hy
      obtain ⟨_, rfl⟩ := last_is (by omega) hm
      exact hx.keep fun b hb o ho => q5 b o ho (hv i y b hy hb)
  · intro i y b hy hb
    rcases q6 with q6 | ⟨j, q6, q7⟩
    · rw [q6]; exact hv i y b hy hb
    · rw [q6]; have := lt i y b hy hb
      intro h; have : j = b := by simpa using h
      omega
  · intro i j y z b hy hz hby hbz
    by_cases hi : i < vs.length
    · by_cases hj : j < vs.length
      · exact e5 i j y z b (old i y hi hy) (old j z hj hz) hby hbz
      · obtain ⟨_, rfl⟩ := last_is hj hz
        exact absurd hby (e7 i y b (.inr hbz) (old i y hi hy))
    · obtain ⟨h1, rfl⟩ := last_is hi hy
      by_cases hj : j < vs.length
      · exact absurd hbz (e7 j z b (.inr hby) (old j z hj hz))
      · obtain ⟨_, rfl⟩ := last_is hj hz; omega
  · intro b hb
    rcases q6 with q6 | ⟨j, q6, q7⟩
    · rw [q6]; exact e6 b (.inl hb)
    · rw [q6]; have := hN b hb
      intro h; have : j = b := by simpa using h
      omega
  · intro i y b hb hy
    by_cases hi : i < vs.length
    · exact e7 i y b (.inl hb) (old i y hi hy)
    · obtain ⟨_, rfl⟩ := last_is hi hy
      exact hx' b hb
end
theorem Sl.shape {H : Heap} {s : Value} {c : Nat} {rows : List (List Value)} (e : Sl H s c rows) : (s = nils ∧ rows = []) ∨ ∃ p n, s = .slice (some p) n c := by
  rcases e with ⟨⟨rfl, h⟩ | ⟨b, o, v, rfl, _⟩, _⟩
  · exact .inl ⟨rfl, h⟩
  · exact .inr ⟨_, _, rfl⟩
theorem fill_none (z : List Value) : fillRow z [] = some z := rfl
section
variable {call : Caller} (ρ : Operand → Value) (h : Heap)
theorem O_func (f : FuncId) (a b : List Operand) : evOp call ρ h (.func f a b) = some (.func (.func f) (a.map ρ).toArray (b.map ρ).toArray, h) := rfl
def callvO (call : Caller) (h : Heap) (xs : List Value) : Value → Option (Value × Heap)
  | .func (.func g) a b => call g (a.toList ++ xs ++ b.toList) h
  | _ => none
theorem O_callv (f : Operand) (xs : List Operand) : evOp call ρ h (.callv f xs) = callvO call h (xs.map ρ) (ρ f) := by
  simp only [evOp]; generalize ρ f = x
  cases x with
  | func g a b => cases g <;> rfl
  | _ => rfl
theorem callv_func (xs : List Value) (g : FuncId) (a b : List Value) : callvO call h xs (.func (.func g) a.toArray b.toArray) = call g (a ++ xs ++ b) h := by simp [callvO]
end
theorem Q_retE0 (h H : Heap) (t : List Value) (R : Value → Heap → Prop) : retE h [] R .ret ⟨t, H⟩ = R (tup []) (AM.finish h (tup []) H) := by
  unfold retE
  apply propext
  constructor
  · rintro ⟨v, h', e, r⟩
    simp [endF, aResults] at e
    obtain ⟨rfl, rfl⟩ := e; exact r
  · intro r; exact ⟨_, _, by simp [endF, aResults], r⟩
theorem Q_retE0' (h H : Heap) (t : List Value) (R : Value → Heap → Prop) : retE h [] R .normal ⟨t, H⟩ = R (tup []) (AM.finish h (tup []) H) := by
  unfold retE
  apply propext
  constructor
  · rintro ⟨v, h', e, r⟩
    simp [endF, aResults] at e
    obtain ⟨rfl, rfl⟩ := e; exact r
  · intro r; exact ⟨_, _, by simp [endF, aResults], r⟩
end Go.Proofs.Ytjodnadlplicmaa.AM
