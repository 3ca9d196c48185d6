/-
  The uir laws' trial of a small code.
  Conditions: none.
-/
import Derived.Test.YtoeoahpngmhkdaaUb4
namespace Go.Proofs.Ytoeoahpngmhkdaa.AM
open Go.RowKit
set_option linter.unusedSimpArgs false
set_option linter.unusedVariables false

def ac0 : Ins := ⟨1, 1, -1, -1, 5, 0, 0, -1, 0, 0, false, false, false, 0, 0, 0, false⟩
def ac1 : Ins := ⟨5, -1, 1, -1, 0, 0, 0, -1, 8, 0, false, false, false, 0, 0, 0, false⟩
theorem fill_ins2 (a b : Ins) : fillRow (zeros (insL zeroI) 2) [(0, 17, agg (insL a)), (17, 17, agg (insL b))] = some (insL a ++ insL b) :=
  fill_whole2 (c := 17) (z := insL zeroI) rfl rfl rfl
theorem fill_able2 : fillRow [.int .i64 0, .int .i64 0, .int .i64 0, .int .i64 0, .int .i64 0, .int .i64 0, .int .i64 0, .int .i64 0, .int .i64 0, .int .i64 0, .bool false, .bool false, .bool false, .int .i64 0, .int .i64 0, .int .i64 0, .bool false, .int .i64 0, .int .i64 0, .int .i64 0, .int .i64 0, .int .i64 0, .int .i64 0, .int .i64 0, .int .i64 0, .int .i64 0, .int .i64 0, .bool false, .bool false, .bool false, .int .i64 0, .int .i64 0, .int .i64 0, .bool false] [(0, 17, agg [.int .i64 1, .int .i64 1, .int .i64 (-1), .int .i64 (-1), .int .i64 5, .int .i64 0, .int .i64 0, .int .i64 (-1), .int .i64 0, .int .i64 0, .bool false, .bool false, .bool false, .int .i64 0, .int .i64 0, .int .i64 0, .bool false]), (17, 17, agg [.int .i64 5, .int .i64 (-1), .int .i64 1, .int .i64 (-1), .int .i64 0, .int .i64 0, .int .i64 0, .int .i64 (-1), .int .i64 8, .int .i64 0, .bool false, .bool false, .bool false, .int .i64 0, .int .i64 0, .int .i64 0, .bool false])] = some (insL ac0 ++ insL ac1) := fill_ins2 ac0 ac1
theorem able3_right : rightC [ac0, ac1] = true := by decide
def ableE : Ev := ⟨1, 1, 5, 0, 255, false, true, 0, 5, false, false, false, 0, 0⟩
def ableS : LS := ⟨2, [0, 5, 0, 0, 0, 0, 0, 0], [], [0, 1], [ableE]⟩
theorem able3_local : localV [ac0, ac1] [0, 0, 0, 0, 0, 0, 0, 0] [] = some ableS := by rfl
theorem InsSl_able2 (h : Heap) : InsSl (h ++ [.cells (insL ac0 ++ insL ac1) 0 false]) (.slice (some ⟨h.length, 0, some 0⟩) 2 17) [ac0, ac1] := by
  refine ⟨.inr ⟨h.length, 0, 0, rfl, ?_⟩, by simp [insL_len]⟩
  unfold Heap.read
  simp [insL_len]
  rfl
theorem Codes_nil (h : Heap) : Codes h (.slice none 0 0) [] := ⟨[], ⟨.inl ⟨rfl, rfl⟩, by simp⟩, rfl, fun k v d hv hd => by simp at hd⟩
end Go.Proofs.Ytoeoahpngmhkdaa.AM
