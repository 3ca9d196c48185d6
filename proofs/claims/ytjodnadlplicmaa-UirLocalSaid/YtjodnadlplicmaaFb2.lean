/-
  The flow laws' trial of a small code.
  Conditions: none.
-/
import Derived.Test.YtjodnadlplicmaaFb1
namespace Go.Proofs.Ytjodnadlplicmaa.AM
open Go.RowKit
set_option linter.unusedSimpArgs false
set_option linter.unusedVariables false

def ab0 : Ins := ⟨4, 1, -1, -1, 0, 0, 0, -1, 8, 0, false, false, false, 0, 0, 0, false⟩
def ab1 : Ins := ⟨9, -1, 1, -1, 0, 0, 0, -1, 0, 0, false, false, false, 0, 0, 3, true⟩
def ab2 : Ins := ⟨5, -1, 1, -1, 0, 1, 0, -1, 8, 0, false, false, false, 0, 0, 0, false⟩
theorem fill_ins3 (a b c : Ins) : fillRow (zeros (insL zeroI) 3) [(0, 17, agg (insL a)), (17, 17, agg (insL b)), (34, 17, agg (insL c))] = some (insL a ++ insL b ++ insL c) :=
  fill_whole3 (c := 17) (z := insL zeroI) rfl rfl rfl rfl
theorem fill_able : fillRow [.int .i64 0, .int .i64 0, .int .i64 0, .int .i64 0, .int .i64 0, .int .i64 0, .int .i64 0, .int .i64 0, .int .i64 0, .int .i64 0, .bool false, .bool false, .bool false, .int .i64 0, .int .i64 0, .int .i64 0, .bool false, .int .i64 0, .int .i64 0, .int .i64 0, .int .i64 0, .int .i64 0, .int .i64 0, .int .i64 0, .int .i64 0, .int .i64 0, .int .i64 0, .bool false, .bool false, .bool false, .int .i64 0, .int .i64 0, .int .i64 0, .bool false, .int .i64 0, .int .i64 0, .int .i64 0, .int .i64 0, .int .i64 0, .int .i64 0, .int .i64 0, .int .i64 0, .int .i64 0, .int .i64 0, .bool false, .bool false, .bool false, .int .i64 0, .int .i64 0, .int .i64 0, .bool false] [(0, 17, agg [.int .i64 4, .int .i64 1, .int .i64 (-1), .int .i64 (-1), .int .i64 0, .int .i64 0, .int .i64 0, .int .i64 (-1), .int .i64 8, .int .i64 0, .bool false, .bool false, .bool false, .int .i64 0, .int .i64 0, .int .i64 0, .bool false]), (17, 17, agg [.int .i64 9, .int .i64 (-1), .int .i64 1, .int .i64 (-1), .int .i64 0, .int .i64 0, .int .i64 0, .int .i64 (-1), .int .i64 0, .int .i64 0, .bool false, .bool false, .bool false, .int .i64 0, .int .i64 0, .int .i64 3, .bool true]), (34, 17, agg [.int .i64 5, .int .i64 (-1), .int .i64 1, .int .i64 (-1), .int .i64 0, .int .i64 1, .int .i64 0, .int .i64 (-1), .int .i64 8, .int .i64 0, .bool false, .bool false, .bool false, .int .i64 0, .int .i64 0, .int .i64 0, .bool false])] = some (insL ab0 ++ (insL ab1 ++ insL ab2)) := fill_ins3 ab0 ab1 ab2
theorem able_right : rightC [ab0, ab1, ab2] = true := by decide
theorem able_paths : pathsN [ab0, ab1, ab2] 9 0 = [[0, 1, 2], [0, 1]] := by decide
theorem able_data : dataV [ab0, ab1, ab2] 2 = 1 := by decide
theorem able_ctrl : ctrlV [ab0, ab1, ab2] 2 = 1 := by decide
theorem able_def : defP [ab0, ab1, ab2] 2 1 = 0 := by decide
theorem InsSl_able (h : Heap) : InsSl (h ++ [.cells (insL ab0 ++ (insL ab1 ++ insL ab2)) 0 false]) (.slice (some ⟨h.length, 0, some 0⟩) 3 17) [ab0, ab1, ab2] := by
  refine ⟨.inr ⟨h.length, 0, 0, rfl, ?_⟩, by simp [insL_len]⟩
  unfold Heap.read
  simp [insL_len]
  rfl
end Go.Proofs.Ytjodnadlplicmaa.AM
