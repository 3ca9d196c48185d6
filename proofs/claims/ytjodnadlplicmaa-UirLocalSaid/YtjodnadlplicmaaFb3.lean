/-
  The flow law on what reads and writes hang from.
  Conditions: none.
-/
import Derived.Test.YtjodnadlplicmaaFb2
namespace Go.Proofs.Ytjodnadlplicmaa.AM
open Go.RowKit
set_option linter.unusedSimpArgs false
set_option linter.unusedVariables false

theorem reach_room : reachBytes ≤ roomFor := by unfold reachBytes roomFor; omega
theorem typed_insL {h : Heap} {l : List Value} (ht : TypedL h (List.replicate 10 (.int .i64) ++ List.replicate 3 .bool ++ List.replicate 3 (.int .i64) ++ [.bool]) l) : ∃ i, l = insL i := by
  have hi : ∀ k, k < 10 ∨ (13 ≤ k ∧ k < 16) → ∃ n : Int, l[k]? = some (.int .i64 n) := by
    intro k hk
    obtain ⟨u, hu, ht⟩ := typedL_get ht (i := k) (s := .int .i64) (by
      have : k = 0 ∨ k = 1 ∨ k = 2 ∨ k = 3 ∨ k = 4 ∨ k = 5 ∨ k = 6 ∨ k = 7 ∨ k = 8 ∨ k = 9 ∨ k = 13 ∨ k = 14 ∨ k = 15 := by omega
      rcases this with rfl | rfl | rfl | rfl | rfl | rfl | rfl | rfl | rfl | rfl | rfl | rfl | rfl <;> rfl)
    cases ht with
    | int k n hw => exact ⟨n, hu⟩
  have hb : ∀ k, (10 ≤ k ∧ k < 13) ∨ k = 16 → ∃ n : Bool, l[k]? = some (.bool n) := by
    intro k hk
    obtain ⟨u, hu, ht⟩ := typedL_get ht (i := k) (s := .bool) (by
      have : k = 10 ∨ k = 11 ∨ k = 12 ∨ k = 16 := by omega
      rcases this with rfl | rfl | rfl | rfl <;> rfl)
    cases ht with
    | bool b => exact ⟨b, hu⟩
  have hl : l.length = 17 := by have := ht.1; simpa using this.symm
  match l, hl, hi, hb with
  | [x0, x1, x2, x3, x4, x5, x6, x7, x8, x9, x10, x11, x12, x13, x14, x15, x16], _, hi, hb =>
    obtain ⟨n0, h0⟩ := hi 0 (by omega)
    obtain ⟨n1, h1⟩ := hi 1 (by omega)
    obtain ⟨n2, h2⟩ := hi 2 (by omega)
    obtain ⟨n3, h3⟩ := hi 3 (by omega)
    obtain ⟨n4, h4⟩ := hi 4 (by omega)
    obtain ⟨n5, h5⟩ := hi 5 (by omega)
    obtain ⟨n6, h6⟩ := hi 6 (by omega)
    obtain ⟨n7, h7⟩ := hi 7 (by omega)
    obtain ⟨n8, h8⟩ := hi 8 (by omega)
    obtain ⟨n9, h9⟩ := hi 9 (by omega)
    obtain ⟨n10, h10⟩ := hb 10 (by omega)
    obtain ⟨n11, h11⟩ := hb 11 (by omega)
    obtain ⟨n12, h12⟩ := hb 12 (by omega)
    obtain ⟨n13, h13⟩ := hi 13 (by omega)
    obtain ⟨n14, h14⟩ := hi 14 (by omega)
    obtain ⟨n15, h15⟩ := hi 15 (by omega)
    obtain ⟨n16, h16⟩ := hb 16 (by omega)
    refine ⟨⟨n0, n1, n2, n3, n4, n5, n6, n7, n8, n9, n10, n11, n12, n13, n14, n15, n16⟩, ?_⟩
    have e0 : x0 = _ := Option.some.inj h0
    have e1 : x1 = _ := Option.some.inj h1
    have e2 : x2 = _ := Option.some.inj h2
    have e3 : x3 = _ := Option.some.inj h3
    have e4 : x4 = _ := Option.some.inj h4
    have e5 : x5 = _ := Option.some.inj h5
    have e6 : x6 = _ := Option.some.inj h6
    have e7 : x7 = _ := Option.some.inj h7
    have e8 : x8 = _ := Option.some.inj h8
    have e9 : x9 = _ := Option.some.inj h9
    have e10 : x10 = _ := Option.some.inj h10
    have e11 : x11 = _ := Option.some.inj h11
    have e12 : x12 = _ := Option.some.inj h12
    have e13 : x13 = _ := Option.some.inj h13
    have e14 : x14 = _ := Option.some.inj h14
    have e15 : x15 = _ := Option.some.inj h15
    have e16 : x16 = _ := Option.some.inj h16
    rw [e0, e1, e2, e3, e4, e5, e6, e7, e8, e9, e10, e11, e12, e13, e14, e15, e16]
    rfl
theorem typed_code {h : Heap} {u : Value} (ht : TypedA h (false, [.slice 120 (List.replicate 10 (.int .i64) ++ List.replicate 3 .bool ++ List.replicate 3 (.int .i64) ++ [.bool])]) u) : ∃ code, InsSl h u code ∧ code.length * 120 ≤ roomFor := by
  obtain ⟨rows, h1, h2, h3⟩ := typed_slice (by simp) ht
  obtain ⟨l, rfl, hl⟩ := rows_of (p := fun _ => True) (f := insL) rows fun r hr => by
    obtain ⟨i, hi⟩ := typed_insL (h2 r hr); exact ⟨i, hi, trivial⟩
  exact ⟨l, h1, Nat.le_trans (by simpa using h3) reach_room⟩
end Go.Proofs.Ytjodnadlplicmaa.AM
