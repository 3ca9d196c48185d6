/-
  Lists of codes, grown code by code; codes as a law is given them.
  Conditions: sizes below 2^40.
-/
import Derived.Test.YtjodnadlplicmaaUb6
namespace Go.Proofs.Ytjodnadlplicmaa.AM
open Go.RowKit
set_option linter.unusedSimpArgs false
set_option linter.unusedVariables false

/-- A list of codes, each alone in its object. -/
def PC (h0 H : Heap) (v : Value) (L : List (List Ins)) : Prop :=
  ∃ vs : List Value, Own h0 H v 1 (vs.map fun x => [x]) ∧ vs.length = L.length ∧
   (∀ (i : Nat) x l, vs[i]? = some x → L[i]? = some l → Own h0 H x 17 (l.map insL)) ∧
   (∀ (i : Nat) x b, vs[i]? = some x → blk x = some b → blk v ≠ some b) ∧
   (∀ (i j : Nat) x y b, vs[i]? = some x → vs[j]? = some y → blk x = some b → blk y = some b → i = j)
theorem PC.nil (h0 H : Heap) : PC h0 H nils [] := ⟨[], Own.nil _ _ _, rfl, by simp, by simp, by simp⟩
section
variable {h0 H H' : Heap} {v : Value} {L : List (List Ins)}
theorem PC.kept (e : PC h0 H v L) (k : Kept H H') : PC h0 H' v L := by
  obtain ⟨vs, e1, e2, e3, e4, e5⟩ := e
  exact ⟨vs, e1.kept k, e2, fun i x l hx hl => (e3 i x l hx hl).kept k, e4, e5⟩
theorem PC.len (e : PC h0 H v L) (K : Heap) : lenO K v = some (.int .i64 L.length, K) := by
  obtain ⟨vs, e1, e2, _⟩ := e
  rw [e1.len, List.length_map, e2]
theorem PC.weak {h1 : Heap} (e : PC h0 H v L) (hl : h1.length ≤ h0.length) : PC h1 H v L := by
  obtain ⟨vs, e1, e2, e3, e4, e5⟩ := e
  exact ⟨vs, e1.weak hl, e2, fun i x l hx hl' => (e3 i x l hx hl').weak hl, e4, e5⟩
theorem PC.lt (e : PC h0 H v L) {b : Nat} (hb : blk v = some b) : h0.length ≤ b ∧ b < H.length := by
  obtain ⟨vs, e1, _⟩ := e; exact e1.lt hb
theorem PC.shape (e : PC h0 H v L) : ∃ a n c, v = .slice a n c := by obtain ⟨vs, e1, _⟩ := e; exact e1.shape
/-- One more code. -/
theorem PC.push (e : PC h0 H v L) (k : Kept H H') (hl : H.length ≤ H'.length) (p0 : h0.length ≤ H.length) (p : Pre h0 H') {x : Value} {l : List Ins} (hx : Own H H' x 17 (l.map insL)) (hroom : L.length < 1099511627776) :
    ∃ v' K, appendTo (H' ++ [.cells [x] 0 false]) 1 24 v (srcOf (H' ++ [.cells [x] 0 false]) 1 (.slice (some ⟨H'.length, 0, some 0⟩) 1 1)) = some (v', K) ∧ PC h0 K v' (L ++ [l]) ∧ Pre h0 K ∧ H'.length ≤ K.length ∧
      (∀ (i : Nat) (o : AObj), H'[i]? = some o → blk v ≠ some i → K[i]? = some o) ∧ (blk v' = blk v ∨ ∃ i, blk v' = some i ∧ H'.length ≤ i) := by
  obtain ⟨vs, e1, e2, e3, e4, e5⟩ := e
  obtain ⟨v', K, q1, q2, q3, q4, q5, q6⟩ := (e1.kept k).push p (row := [x]) (bytes := 24) rfl (by rw [List.length_map, e2]; unfold roomFor; omega)
  refine ⟨v', K, q1, ⟨vs ++ [x], by rw [List.map_append]; exact q2, by simp [e2], ?_, ?_, ?_⟩, q3, q4, q5, q6⟩
  · intro i y m hy hm
    by_cases hi : i < vs.length
    · rw [List.getElem?_append_left hi] at hy
      rw [List.getElem?_append_left (by omega)] at hm
      refine ((e3 i y m hy hm).kept k).keep fun b hb o ho => q5 b o ho ?_
      exact e4 i y b hy hb
    · rw [List.getElem?_append_right (by omega)] at hy hm
      have hi2 : i - vs.length = 0 := by
        rcases Nat.lt_or_ge (i - vs.length) 1 with h | h
        · omega
        · rw [List.getElem?_eq_none (by simpa using h)] at hy; cases hy
      rw [hi2] at hy
      rw [← e2, hi2] at hm
      cases hy; cases hm
      refine (hx.weak p0).keep fun b hb o ho => q5 b o ho ?_
      intro hv
      have h1 := (hx.lt hb).1
      have h2 := (e1.lt hv).2
      omega
  · intro i y b hy hb
    rcases q6 with q6 | ⟨j, q6, q7⟩
    · rw [q6]
      by_cases hi : i < vs.length
      · rw [List.getElem?_append_left hi] at hy
        exact e4 i y b hy hb
      · rw [List.getElem?_append_right (by omega)] at hy
        have hi2 : i - vs.length = 0 := by
          rcases Nat.lt_or_ge (i - vs.length) 1 with h | h
          · omega
          · rw [List.getElem?_eq_none (by simpa using h)] at hy; cases hy
        rw [hi2] at hy; cases hy
        intro hv
        have h1 := (hx.lt hb).1
        have h2 := (e1.lt hv).2
        omega
    · rw [q6]
      intro hj
      have : j = b := by simpa using hj
      subst this
      by_cases hi : i < vs.length
      · rw [List.getElem?_append_left hi] at hy
        have hm : i < L.length := by omega
        have h2 := ((e3 i y L[i] hy (List.getElem?_eq_getElem hm)).lt hb).2
        omega
      · rw [List.getElem?_append_right (by omega)] at hy
        have hi2 : i - vs.length = 0 := by
          rcases Nat.lt_or_ge (i - vs.length) 1 with h | h
          · omega
          · rw [List.getElem?_eq_none (by simpa using h)] at hy; cases hy
        rw [hi2] at hy; cases hy
        have h2 := (hx.lt hb).2
        omega
  · intro i j y z b hy hz hby hbz
    have old : ∀ i y, i < vs.length → (vs ++ [x])[i]? = some y → blk y = some b → vs[i]? = some y ∧ b < H.length := by
      intro i y hi hy hb
      rw [List.getElem?_append_left hi] at hy
      have hm : i < L.length := by omega
      exact ⟨hy, ((e3 i y L[i] hy (List.getElem?_eq_getElem hm)).lt hb).2⟩
    have new : ∀ i y, ¬ i < vs.length → (vs ++ [x])[i]? = some y → blk y = some b → i = vs.length ∧ H.length ≤ b := by
      intro i y hi hy hb
      rw [List.getElem?_append_right (by omega)] at hy
      have hi2 : i - vs.length = 0 := by
        rcases Nat.lt_or_ge (i - vs.length) 1 with h | h
        · omega
        · rw [List.getElem?_eq_none (by simpa using h)] at hy; cases hy
      rw [hi2] at hy; cases hy
      exact ⟨by omega, (hx.lt hb).1⟩
    by_cases hi : i < vs.length
    · obtain ⟨a1, a2⟩ := old i y hi hy hby
      by_cases hj : j < vs.length
      · obtain ⟨b1, b2⟩ := old j z hj hz hbz
        exact e5 i j y z b a1 b1 hby hbz
      · obtain ⟨b1, b2⟩ := new j z hj hz hbz; omega
    · obtain ⟨a1, a2⟩ := new i y hi hy hby
      by_cases hj : j < vs.length
      · obtain ⟨b1, b2⟩ := old j z hj hz hbz; omega
      · obtain ⟨b1, b2⟩ := new j z hj hz hbz; omega
end
theorem PC.codes {h0 H : Heap} {v : Value} {L : List (List Ins)} (e : PC h0 H v L) : Codes H v L := by
  obtain ⟨vs, e1, e2, e3, _⟩ := e
  exact ⟨vs, e1.sl, e2, fun k x c hx hc => (e3 k x c hx hc).sl⟩
theorem Codes.pre {h H : Heap} {s : Value} {codes : List (List Ins)} (e : Codes h s codes) (p : Pre h H) : Codes H s codes := by
  obtain ⟨vs, h1, h2, h3⟩ := e
  exact ⟨vs, h1.pre p, h2, fun k v c hv hc => (h3 k v c hv hc).pre p⟩
theorem typed_codes {h : Heap} {u : Value} (ht : TypedA h (false, [.slice 24 [.slice 120 (List.replicate 10 (.int .i64) ++ List.replicate 3 .bool ++ List.replicate 3 (.int .i64) ++ [.bool])]]) u) : ∃ codes, Codes h u codes ∧ codes.length * 24 ≤ roomFor ∧ ∀ c ∈ codes, c.length * 120 ≤ roomFor := by
  obtain ⟨rows, h1, h2, h3⟩ := typed_slice (by simp) ht
  obtain ⟨l, rfl, hl⟩ := rows_of (α := Value × List Ins) (p := fun a => InsSl h a.1 a.2 ∧ a.2.length * 120 ≤ roomFor) (f := fun a => [a.1]) rows fun r hr => by
    have hrl := (h2 r hr).1
    obtain ⟨w, hw, hwt⟩ := typedL_get (h2 r hr) (i := 0) rfl
    obtain ⟨rs, g1, g2, g3⟩ := typed_slice' (by simp) hwt
    obtain ⟨c, rfl, _⟩ := rows_of (p := fun _ => True) (f := insL) rs fun r hr => by
      obtain ⟨i, hi⟩ := typed_insL (g2 r hr); exact ⟨i, hi, trivial⟩
    refine ⟨(w, c), ?_, g1, Nat.le_trans (by simpa using g3) reach_room⟩
    match r, hrl, hw with
    | [x], _, hw => have := Option.some.inj hw; rw [this]
  refine ⟨l.map fun a => a.2, ⟨l.map fun a => a.1, ?_, by simp, fun k v c hv hc => ?_⟩, Nat.le_trans (by simpa using h3) reach_room, fun c hc => ?_⟩
  · rw [List.map_map]; exact h1
  · rw [List.getElem?_map] at hv hc
    cases hk : l[k]? with
    | none => rw [hk] at hv; cases hv
    | some a =>
      rw [hk] at hv hc
      cases hv; cases hc
      exact (hl a (List.mem_of_getElem? hk)).1
  · obtain ⟨a, ha, rfl⟩ := List.mem_map.1 hc
    exact (hl a ha).2
theorem eqAgg_ins_self (H : Heap) (neg : Bool) (i : Ins) : eqAggO H neg (List.replicate 10 .int ++ (List.replicate 3 .bool ++ (List.replicate 3 .int ++ [.bool]))) (agg (insL i)) (agg (insL i)) = some (.bool (true != neg), H) := by
  refine eqAgg_some H (by simp [insL]) (by simp [insL]) ?_
  simp [insL, rowEq, leafEq, List.replicate_succ]
def sumLen (codes : List (List Ins)) : Nat := (codes.map List.length).sum
theorem sumLen_succ {codes : List (List Ins)} {k : Nat} (hk : k < codes.length) : sumLen (codes.take (k + 1)) = sumLen (codes.take k) + codes[k].length := by
  unfold sumLen; rw [List.take_succ_eq_append_getElem hk, List.map_append, List.sum_append]; simp
theorem sumLen_mem : ∀ {codes : List (List Ins)}, ∀ c ∈ codes, c.length ≤ sumLen codes
  | [], _, h => by simp at h
  | d :: codes, c, h => by
    have e : sumLen (d :: codes) = d.length + sumLen codes := by simp [sumLen]
    rcases List.mem_cons.1 h with rfl | h
    · omega
    · have := sumLen_mem c h; omega
end Go.Proofs.Ytjodnadlplicmaa.AM
