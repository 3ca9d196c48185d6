/-
  A list of masks: what the law of it comes to in the abstract machine.
  Conditions: the values are in int's range.
-/
import Derived.Test.YtcdjdmcacomkgaaBk8
import Derived.Test.YtcdjdmcacomkgaaAm2e
namespace Go.Proofs.Ytcdjdmcacomkgaa.AM
open Go.RowKit
set_option linter.unusedSimpArgs false
set_option linter.unusedVariables false

theorem or_low (A m : Int) : Go.bits .or .i64 (Go.bits .and .i64 A 255) (Go.bits .and .i64 m 255) = Go.bits .and .i64 (Go.bits .or .i64 A m) 255 := by
  refine ext (W_bits _ _ _) (W_bits _ _ _) fun i hi => ?_
  rw [b_or, b_and, b_and, b_and, b_or, b_255 hi]
  cases bi A i <;> cases bi m i <;> cases decide (i < 8) <;> rfl
theorem fold_low (ms : List Int) : ∀ A, ms.foldl (fun a m => Go.bits .or .i64 a (Go.bits .and .i64 m 255)) (Go.bits .and .i64 A 255) = Go.bits .and .i64 (ms.foldl (fun a m => Go.bits .or .i64 a m) A) 255 := by
  induction ms with
  | nil => intro A; rfl
  | cons m ms ih => intro A; simp only [List.foldl_cons]; rw [or_low, ih]
theorem union_low (ms : List Int) : ms.foldl (fun a m => Go.bits .or .i64 a (Go.bits .and .i64 m 255)) 0 = unionV ms := by
  rw [unionV, orL, ← fold_low]; rfl
end Go.Proofs.Ytcdjdmcacomkgaa.AM
