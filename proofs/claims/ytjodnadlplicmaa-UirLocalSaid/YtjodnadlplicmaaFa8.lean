/-
  All paths through a code, as the program walks them.
  Conditions: codes no longer than 8, their branches within.
-/
import Derived.Test.YtjodnadlplicmaaFa7
namespace Go.Proofs.Ytjodnadlplicmaa.AM
open Go.RowKit
set_option linter.unusedSimpArgs false
set_option linter.unusedVariables false

theorem one_read {H : Heap} {i : Nat} {v : Value} (e : H[i]? = some (.cells [v] 0 false)) : Heap.read1 H ⟨i, 0, some 0⟩ = some v := by simp [Heap.read1, e]
theorem one_write {H : Heap} {i : Nat} {v w : Value} (e : H[i]? = some (.cells [v] 0 false)) : Heap.write1 H ⟨i, 0, some 0⟩ w = some (H.set i (.cells [w] 0 false)) := by simp [Heap.write1, e]
theorem paths_some (code : List Ins) : ∀ f k, code.length - k < f → 0 < (pathsN code f k).length
  | 0, k, h => by omega
  | f + 1, k, h => by
    rw [pathsN]
    cases hi : code[k]? with
    | none => simp
    | some i =>
      have hk := (List.getElem?_eq_some_iff.1 hi).1
      have := paths_some code f (k + 1) (by omega)
      simp only [List.length_append, List.length_map]; omega
end Go.Proofs.Ytjodnadlplicmaa.AM
