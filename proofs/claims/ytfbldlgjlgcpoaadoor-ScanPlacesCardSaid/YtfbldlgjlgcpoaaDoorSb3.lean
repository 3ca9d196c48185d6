/-
  The scanner's laws on any typed argument.
  Conditions: none.
-/
import Derived.Test.YtfbldlgjlgcpoaaDoorSb2
import Derived.Test.YtfbldlgjlgcpoaaDoorAf
namespace Go.Proofs.YtfbldlgjlgcpoaaDoor.AM
open Go.RowKit
set_option linter.unusedVariables false

theorem Gl.of {h : Heap} {m : Int} {u : TypeId} (hg : ∀ (i : Nat) (l : List Value), ([[.int .i64 m], [.iface u (.chan (some 0))]] : List (List Value))[i]? = some l → h[i]? = some (AObj.cells l 0 true)) : Gl h :=
  ⟨⟨m, hg 0 _ rfl⟩, _, hg 1 _ rfl, rfl⟩
theorem typed_str1 {h : Heap} {us : List Value} (ht : TypedAs h [(false, [.str])] us) : ∃ l : List UInt8, us = [str l] := by
  match us, ht with
  | [u], ht =>
    obtain ⟨s, rfl, _⟩ := typed_str ht.1
    exact ⟨s.data.toList, by rw [str_of]⟩
theorem scanTokens_law {m : Int} {u : TypeId} (h : Heap) (us : List Value) (hg : ∀ (i : Nat) (l : List Value), ([[.int .i64 m], [.iface u (.chan (some 0))]] : List (List Value))[i]? = some l → h[i]? = some (AObj.cells l 0 true)) (ht : TypedAs h [(false, [.str])] us) : ∃ h', DF FF n_belatedlaw4_ScanTokens us h = some (.bool true, h') := by
  obtain ⟨l, rfl⟩ := typed_str1 ht
  obtain ⟨v, h', e, rfl⟩ := law_ScanTokens l (Gl.of hg)
  exact ⟨h', e⟩
theorem scanBack_law {m : Int} {u : TypeId} (h : Heap) (us : List Value) (hg : ∀ (i : Nat) (l : List Value), ([[.int .i64 m], [.iface u (.chan (some 0))]] : List (List Value))[i]? = some l → h[i]? = some (AObj.cells l 0 true)) (ht : TypedAs h [(false, [.str])] us) : ∃ h', DF FF n_belatedlaw4_ScanBack us h = some (.bool true, h') := by
  obtain ⟨l, rfl⟩ := typed_str1 ht
  obtain ⟨v, h', e, rfl⟩ := law_ScanBack l (Gl.of hg)
  exact ⟨h', e⟩
theorem scanPlaces_law {m : Int} {u : TypeId} (h : Heap) (us : List Value) (hg : ∀ (i : Nat) (l : List Value), ([[.int .i64 m], [.iface u (.chan (some 0))]] : List (List Value))[i]? = some l → h[i]? = some (AObj.cells l 0 true)) (ht : TypedAs h [(false, [.str])] us) : ∃ h', DF FF n_belatedlaw4_ScanPlaces us h = some (.bool true, h') := by
  obtain ⟨l, rfl⟩ := typed_str1 ht
  obtain ⟨v, h', e, rfl⟩ := law_ScanPlaces l (Gl.of hg)
  exact ⟨h', e⟩
end Go.Proofs.YtfbldlgjlgcpoaaDoor.AM
