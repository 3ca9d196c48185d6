/-
  AM, part 24: what arguments look like that can be read.
  Conditions: none.
-/
import Derived.Test.YtjjlbfamfioofaaDoorAm23
import Derived.Test.YtjjlbfamfioofaaDoorAm2f
namespace Go.Proofs.YtjjlbfamfioofaaDoor.AM
open Go.RowKit
/-- A row of whole numbers, or none at all. -/
def IntsN (h : Heap) (s : Value) (ms : List Int) : Prop := (s = nils ∧ ms = []) ∨ Ints h s ms
theorem IntsN.len {h : Heap} {s : Value} {ms : List Int} (e : IntsN h s ms) (H : Heap) : lenO H s = some (.int .i64 ms.length, H) := by
  rcases e with ⟨rfl, rfl⟩ | ⟨p, rfl, _⟩ <;> rfl
theorem IntsN.src {h : Heap} {s : Value} {ms : List Int} (e : IntsN h s ms) (more : Heap) : srcOf (h ++ more) 1 s = some (ms.map (.int .i64 ·), ms.length) := by
  rcases e with ⟨rfl, rfl⟩ | ⟨p, rfl, hr⟩
  · rfl
  · exact src_some _ (by rw [Nat.mul_one]; exact read_more h more hr)
theorem IntsN.at {h : Heap} {s : Value} {ms : List Int} (e : IntsN h s ms) (more : Heap) {k : Nat} (hk : k < ms.length) : ∃ p : Addr, rowO (h ++ more) 1 s (.int .i64 k) = some (.pointer (some p), h ++ more) ∧ Heap.read1 (h ++ more) p = some (.int .i64 ms[k]) := by
  rcases e with ⟨rfl, rfl⟩ | ⟨p, rfl, hr⟩
  · simp at hk
  · refine ⟨_, row_some _ (by omega) (by omega), ?_⟩
    simp only [Int.toNat_natCast, Nat.mul_one]
    exact Ints.get (read_more h more hr) hk
theorem typed_int {h : Heap} {k : IntKind} {u : Value} (ht : TypedA h (false, [.int k]) u) : ∃ n, u = .int k n ∧ (Lit.int k n).wf = true := by
  have := ht.2 0 _ _ rfl rfl
  cases this; exact ⟨_, rfl, ‹_›⟩
theorem typed_bool {h : Heap} {u : Value} (ht : TypedA h (false, [.bool]) u) : ∃ b, u = .bool b := by
  have := ht.2 0 _ _ rfl rfl
  cases this; exact ⟨_, rfl⟩
theorem typed_str {h : Heap} {u : Value} (ht : TypedA h (false, [.str]) u) : ∃ s : ByteArray, u = .string s ∧ s.size ≤ reachBytes := by
  have := ht.2 0 _ _ rfl rfl
  cases this; exact ⟨_, rfl, ‹_›⟩
theorem ints_of {h : Heap} {k : IntKind} : ∀ (l : List Value), (∀ (i : Nat) u, l[i]? = some u → Typed h (.int k) u) → ∃ ms : List Int, l = ms.map (.int k ·) ∧ ∀ m ∈ ms, (Lit.int k m).wf = true
  | [], _ => ⟨[], rfl, fun m hm => by simp at hm⟩
  | u :: l, ht => by
    obtain ⟨ms, rfl, hw⟩ := ints_of l fun i u hu => ht (i + 1) u (by simpa using hu)
    have := ht 0 u rfl
    cases this
    exact ⟨_ :: ms, rfl, fun m hm => by
      rcases List.mem_cons.1 hm with rfl | hm
      · assumption
      · exact hw m hm⟩
theorem typed_ints' {h : Heap} {b : Nat} {u : Value} (ht : Typed h (.slice b [.int .i64]) u) : ∃ ms : List Int, IntsN h u ms ∧ (∀ m ∈ ms, (Lit.int .i64 m).wf = true) ∧ ms.length * b ≤ reachBytes := by
  cases ht with
  | nil => exact ⟨[], .inl ⟨rfl, rfl⟩, fun m hm => by simp at hm, by simp⟩
  | slice b e i n l hi hl hb ht =>
    obtain ⟨ms, rfl, hw⟩ := ints_of (k := .i64) l fun j u hu => ht j _ u (by simp [Nat.mod_one]) hu
    simp at hl
    refine ⟨ms, .inr ⟨⟨i, 0, some 0⟩, by simp [hl], ?_⟩, hw, by rw [hl]; exact hb⟩
    simp [Heap.read, hi]
    rw [List.take_of_length_le (by simp)]
theorem typed_ints {h : Heap} {b : Nat} {u : Value} (ht : TypedA h (false, [.slice b [.int .i64]]) u) : ∃ ms : List Int, IntsN h u ms ∧ (∀ m ∈ ms, (Lit.int .i64 m).wf = true) ∧ ms.length * b ≤ reachBytes := typed_ints' (ht.2 0 _ _ rfl rfl)
end Go.Proofs.YtjjlbfamfioofaaDoor.AM
