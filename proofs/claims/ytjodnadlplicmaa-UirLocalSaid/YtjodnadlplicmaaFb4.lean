/-
  The flow laws on values.
  Conditions: none.
-/
import Derived.Test.YtjodnadlplicmaaFb3
namespace Go.Proofs.Ytjodnadlplicmaa.AM
open Go.RowKit
set_option linter.unusedSimpArgs false
set_option linter.unusedVariables false

theorem typed_intS {h : Heap} {b : Nat} {u : Value} (ht : TypedA h (false, [.slice b [.int .i64]]) u) : ∃ l : List Int, IntS h u l ∧ l.length * b ≤ roomFor := by
  obtain ⟨rows, h1, h2, h3⟩ := typed_slice (by simp) ht
  obtain ⟨l, rfl, hl⟩ := rows_of (p := fun _ => True) (f := intR) rows fun r hr => by
    obtain ⟨u, hu, ht⟩ := typedL_get (h2 r hr) (i := 0) (s := .int .i64) rfl
    have hlen := (h2 r hr).1
    cases ht with
    | int k n hw =>
      refine ⟨n, ?_, trivial⟩
      match r, hlen, hu with
      | [x], _, hu => have := Option.some.inj hu; rw [this]; rfl
  exact ⟨l, h1, Nat.le_trans (by simpa using h3) reach_room⟩
theorem typed_regs {h : Heap} {u : Value} (ht : TypedA h (true, List.replicate 8 (.int .i64)) u) : ∃ R : List Int, u = agg (regsL R) ∧ R.length = 8 := by
  obtain ⟨l, rfl, ht⟩ := ht
  have key : ∀ k, k < 8 → ∃ x : Int, l[k]? = some (.int .i64 x) := by
    intro k hk
    obtain ⟨u, hu, ht⟩ := typedL_get ht (i := k) (s := .int .i64) (by rw [List.getElem?_replicate, if_pos hk])
    cases ht with
    | int k n hw => exact ⟨n, hu⟩
  refine ⟨(List.range 8).map fun k => if h : k < 8 then (key k h).choose else 0, ?_, by simp⟩
  congr 1
  apply List.ext_getElem?
  intro k
  by_cases hk : k < 8
  · rw [(key k hk).choose_spec]
    unfold regsL
    rw [List.getElem?_map, List.getElem?_map, List.getElem?_range hk]
    simp [hk]
  · rw [List.getElem?_eq_none (by have := ht.1; simp at this; omega), List.getElem?_eq_none (by simp [regsL]; omega)]
def valueP (ps : List Ins) (R vals : List Int) (kn place r : Int) : Int × Bool := valueF ps R vals kn (ps.length + 1) place r
theorem copy3 {K : Heap} {x y z : Value} {A B C : List (List Value)} (hx : Sl K x 17 A) (hy : Sl K y 1 B) (hz : Sl K z 1 C) (la : A.length * 120 ≤ roomFor) (lb : B.length * 8 ≤ roomFor) (lc : C.length * 8 ≤ roomFor) :
    ∃ s1 K1 s2 K2 s3 K3, appendTo (K ++ [.cells [] 0 false, .cells [] 0 false, .cells [] 0 false]) 17 120 (.slice (some ⟨K.length, 0, some 0⟩) 0 17) (srcOf (K ++ [.cells [] 0 false, .cells [] 0 false, .cells [] 0 false]) 17 x) = some (s1, K1) ∧
      appendTo K1 1 8 (.slice (some ⟨K.length + 1, 0, some 0⟩) 0 1) (srcOf K1 1 y) = some (s2, K2) ∧ appendTo K2 1 8 (.slice (some ⟨K.length + 2, 0, some 0⟩) 0 1) (srcOf K2 1 z) = some (s3, K3) ∧
      Sl K3 s1 17 A ∧ Sl K3 s2 1 B ∧ Sl K3 s3 1 C ∧ Pre K K1 ∧ Pre K K2 ∧ Pre K K3 := by
  have pE : Pre K (K ++ [.cells [] 0 false, .cells [] 0 false, .cells [] 0 false]) := (Pre.refl K).more _
  have o1 : Own K (K ++ [.cells [] 0 false, .cells [] 0 false, .cells [] 0 false]) (.slice (some ⟨K.length, 0, some 0⟩) 0 17) 17 [] := ⟨.inr ⟨K.length, 0, Nat.le_refl _, rfl, by simp⟩, by simp⟩
  have o2 : Own K (K ++ [.cells [] 0 false, .cells [] 0 false, .cells [] 0 false]) (.slice (some ⟨K.length + 1, 0, some 0⟩) 0 1) 1 [] := ⟨.inr ⟨K.length + 1, 0, by omega, rfl, by rw [List.getElem?_append_right (by omega)]; simp⟩, by simp⟩
  have o3 : Own K (K ++ [.cells [] 0 false, .cells [] 0 false, .cells [] 0 false]) (.slice (some ⟨K.length + 2, 0, some 0⟩) 0 1) 1 [] := ⟨.inr ⟨K.length + 2, 0, by omega, rfl, by rw [List.getElem?_append_right (by omega)]; simp⟩, by simp⟩
  obtain ⟨s1, K1, a1, a2, a3, a4, a5, a6⟩ := o1.append pE (ys := A.flatten) (rows' := A) (bytes := 120) rfl hx.2 (by simpa using la)
  have o2' : Own K K1 (.slice (some ⟨K.length + 1, 0, some 0⟩) 0 1) 1 [] := o2.keep fun i hi o ho => a5 i o ho (by cases hi; simp [blk])
  have o3' : Own K K1 (.slice (some ⟨K.length + 2, 0, some 0⟩) 0 1) 1 [] := o3.keep fun i hi o ho => a5 i o ho (by cases hi; simp [blk])
  obtain ⟨s2, K2, b1, b2, b3, b4, b5, b6⟩ := o2'.append a3 (ys := B.flatten) (rows' := B) (bytes := 8) rfl hy.2 (by simpa using lb)
  have o3'' : Own K K2 (.slice (some ⟨K.length + 2, 0, some 0⟩) 0 1) 1 [] := o3'.keep fun i hi o ho => b5 i o ho (by cases hi; simp [blk])
  have n1 : ∀ i, blk s1 = some i → i = K.length ∨ K.length + 3 ≤ i := by
    intro i hi
    rcases a6 with h | ⟨j, h, h'⟩
    · rw [h] at hi; simp [blk] at hi; omega
    · rw [h] at hi; cases hi; simp at h'; omega
  have s12 : Own K K2 s1 17 A := by
    have := a2.keep (H' := K2) fun i hi o ho => b5 i o ho (by have := n1 i hi; simp [blk]; omega)
    simpa using this
  have n2 : ∀ i, blk s2 = some i → i = K.length + 1 ∨ K.length + 3 ≤ i := by
    intro i hi
    rcases b6 with h | ⟨j, h, h'⟩
    · rw [h] at hi; simp [blk] at hi; omega
    · rw [h] at hi; cases hi; simp at a4; omega
  obtain ⟨s3, K3, c1, c2, c3, c4, c5, c6⟩ := o3''.append b3 (ys := C.flatten) (rows' := C) (bytes := 8) rfl hz.2 (by simpa using lc)
  have s13 : Own K K3 s1 17 A := s12.keep fun i hi o ho => c5 i o ho (by have := n1 i hi; simp [blk]; omega)
  have s23 : Own K K3 s2 1 B := by
    have := b2.keep (H' := K3) fun i hi o ho => c5 i o ho (by have := n2 i hi; simp [blk]; omega)
    simpa using this
  refine ⟨s1, K1, s2, K2, s3, K3, by rw [hx.src]; exact a1, by rw [(hy.pre a3).src0]; exact b1, by rw [(hz.pre b3).src0]; exact c1, s13.sl, s23.sl, ?_, a3, b3, c3⟩
  simpa using c2.sl
theorem read_regs {h K : Heap} {R : List Int} (hR : R.length = 8) (p : Pre (h ++ [.cells (regsL R) 0 false]) K) : Heap.read K ⟨h.length, 0, some 0⟩ 8 = some (regsL R) := by
  obtain ⟨L, rfl⟩ := p
  rw [List.append_assoc]
  rw [read_skip0]
  exact read_there _ _ _ _ (by rw [regsL_len, hR])
end Go.Proofs.Ytjodnadlplicmaa.AM
