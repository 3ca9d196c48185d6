/-
  AM, part 29: slices and rows of cells among the arguments.
  Conditions: none.
-/
import Derived.Test.YtjjlbfamfioofaaDoorAm24
import Derived.Test.YtjjlbfamfioofaaDoorAm28
namespace Go.Proofs.YtjjlbfamfioofaaDoor.AM
open Go.RowKit
set_option linter.unusedSimpArgs false
set_option linter.unusedVariables false

theorem typed_slice' {h : Heap} {b : Nat} {e : List Sh} {u : Value} (he : 0 < e.length) (ht : Typed h (.slice b e) u) :
    ∃ rows : List (List Value), Sl h u e.length rows ∧ (∀ r ∈ rows, TypedL h e r) ∧ rows.length * b ≤ reachBytes := by
  cases ht with
  | nil => exact ⟨[], ⟨.inl ⟨rfl, rfl⟩, by simp⟩, by simp, by simp⟩
  | slice b e i n l hi hl hb ht =>
    have hpl : ∀ r ∈ pieces l e.length n, r.length = e.length := by
      intro r hr
      obtain ⟨k, hk, rfl⟩ := pieces_mem hr
      rw [List.length_take, List.length_drop, hl]
      have : k * e.length + e.length ≤ n * e.length := by rw [← Nat.succ_mul]; exact Nat.mul_le_mul_right _ hk
      omega
    refine ⟨pieces l e.length n, ⟨.inr ⟨i, 0, 0, by rw [pieces_len], ?_⟩, hpl⟩, ?_, by rw [pieces_len]; exact hb⟩
    · rw [pieces_len, pieces_flat _ _ _ (by omega)]
      unfold Heap.read
      simp only [hi]
      rw [if_pos ⟨trivial, by omega⟩]; simp
    · intro r hr
      refine ⟨(hpl r hr).symm, ?_⟩
      obtain ⟨k, hk, rfl⟩ := pieces_mem hr
      intro j s u hs hu
      have hj : j < e.length := (List.getElem?_eq_some_iff.1 hs).1
      refine ht (k * e.length + j) s u ?_ ?_
      · rw [Nat.mul_comm, Nat.mul_add_mod, Nat.mod_eq_of_lt hj]; exact hs
      · rw [List.getElem?_take, if_pos hj, List.getElem?_drop] at hu; exact hu
theorem typed_slice {h : Heap} {b : Nat} {e : List Sh} {u : Value} (he : 0 < e.length) (ht : TypedA h (false, [.slice b e]) u) :
    ∃ rows : List (List Value), Sl h u e.length rows ∧ (∀ r ∈ rows, TypedL h e r) ∧ rows.length * b ≤ reachBytes := typed_slice' he (ht.2 0 _ _ rfl rfl)
/-- Rows each of which is some datum's. -/
theorem rows_of {α : Type} {p : α → Prop} {f : α → List Value} : ∀ (rows : List (List Value)), (∀ r ∈ rows, ∃ a, r = f a ∧ p a) → ∃ l : List α, rows = l.map f ∧ ∀ a ∈ l, p a
  | [], _ => ⟨[], rfl, by simp⟩
  | r :: rows, h => by
    obtain ⟨l, rfl, hl⟩ := rows_of rows fun q hq => h q (by simp [hq])
    obtain ⟨a, rfl, ha⟩ := h r (by simp)
    exact ⟨a :: l, rfl, fun b hb => by
      rcases List.mem_cons.1 hb with rfl | hb
      · exact ha
      · exact hl b hb⟩
theorem typedL_get {h : Heap} {ss : List Sh} {us : List Value} (ht : TypedL h ss us) {i : Nat} {s : Sh} (hs : ss[i]? = some s) : ∃ u, us[i]? = some u ∧ Typed h s u := by
  have hi := (List.getElem?_eq_some_iff.1 hs).1
  have hu : i < us.length := by rw [← ht.1]; exact hi
  exact ⟨us[i], List.getElem?_eq_getElem hu, ht.2 i s _ hs (List.getElem?_eq_getElem hu)⟩
theorem typed_relL {h : Heap} {l : List Value} (ht : TypedL h (List.replicate 32 (.int .u32)) l) : ∃ f, l = relV f := by
  have key : ∀ k, k < 32 → ∃ x : U, l[k]? = some (.int .u32 (x.toNat : Int)) := by
    intro k hk
    obtain ⟨u, hu, ht⟩ := typedL_get ht (i := k) (s := .int .u32) (by rw [List.getElem?_replicate, if_pos hk])
    cases ht with
    | int k n hw => obtain ⟨x, rfl⟩ := u_of hw; exact ⟨x, hu⟩
  refine ⟨fun k => if h : k < 32 then (key k h).choose else 0#32, ?_⟩
  apply List.ext_getElem?
  intro k
  by_cases hk : k < 32
  · rw [relV_get hk, dif_pos hk]; exact (key k hk).choose_spec
  · rw [List.getElem?_eq_none (by have := ht.1; simp at this; omega), List.getElem?_eq_none (by rw [relV_len]; omega)]
theorem typed_rel {h : Heap} {u : Value} (ht : TypedA h (true, List.replicate 32 (.int .u32)) u) : ∃ f, u = agg (relV f) := by
  obtain ⟨l, rfl, ht⟩ := ht
  obtain ⟨f, rfl⟩ := typed_relL ht
  exact ⟨f, rfl⟩
theorem typed_set {h : Heap} {u : Value} (ht : TypedA h (false, [.int .u32]) u) : ∃ x : U, u = .int .u32 (x.toNat : Int) := by
  obtain ⟨n, rfl, hw⟩ := typed_int ht
  obtain ⟨x, rfl⟩ := u_of hw
  exact ⟨x, rfl⟩
theorem typed_rels {h : Heap} {b : Nat} {u : Value} (ht : TypedA h (false, [.slice b (List.replicate 32 (.int .u32))]) u) : ∃ rs, Rels h u rs ∧ rs.length * b ≤ reachBytes := by
  obtain ⟨rows, h1, h2, h3⟩ := typed_slice (by simp) ht
  obtain ⟨rs, rfl, _⟩ := rows_of (p := fun _ => True) (f := relV) rows fun r hr => by
    obtain ⟨f, hf⟩ := typed_relL (h2 r hr); exact ⟨f, hf, trivial⟩
  refine ⟨rs, ?_, by simpa using h3⟩
  simpa [Rels] using h1
end Go.Proofs.YtjjlbfamfioofaaDoor.AM
