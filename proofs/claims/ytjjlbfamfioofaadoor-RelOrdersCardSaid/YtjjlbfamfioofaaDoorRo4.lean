/-
  Relations: the laws of rows, of whatever arguments.
  Conditions: the table of the lowest bit lies where it was laid.
-/
import Derived.Test.YtjjlbfamfioofaaDoorRo3
namespace Go.Proofs.YtjjlbfamfioofaaDoor.AM
open Go.RowKit
theorem glob_tz {h : Heap} (hg : ∀ (i : Nat) (l : List Value), [tzTab][i]? = some l → h[i]? = some (AObj.cells l 0 true)) : Nonempty (TzTab h) := ⟨hg 0 tzTab rfl⟩
theorem relOrders_law (h : Heap) (us : List Value) (hg : ∀ (i : Nat) (l : List Value), [tzTab][i]? = some l → h[i]? = some (AObj.cells l 0 true)) (hu : TypedAs h [(false, [(.int .u32)]), (true, (List.replicate 32 (.int .u32)))] us) : ∃ h', DF FF n_belatedlaw2_RelOrders us h = some (.bool true, h') := by
  haveI := glob_tz hg
  match us, hu with
  | [a, b], ⟨h0, h1, _⟩ =>
    obtain ⟨u, rfl⟩ := typed_set h0
    obtain ⟨r, rfl⟩ := typed_rel h1
    exact ⟨h, law_RelOrders u r h⟩
theorem relRows_law (h : Heap) (us : List Value) (hg : ∀ (i : Nat) (l : List Value), [tzTab][i]? = some l → h[i]? = some (AObj.cells l 0 true)) (hu : TypedAs h [(false, [(.int .u32)]), (true, (List.replicate 32 (.int .u32)))] us) : ∃ h', DF FF n_belatedlaw2_RelRows us h = some (.bool true, h') := by
  haveI := glob_tz hg
  match us, hu with
  | [a, b], ⟨h0, h1, _⟩ =>
    obtain ⟨u, rfl⟩ := typed_set h0
    obtain ⟨r, rfl⟩ := typed_rel h1
    exact ⟨h, law_RelRows u r h⟩
end Go.Proofs.YtjjlbfamfioofaaDoor.AM
