/-
  The program's functions are those that the abstract machine reads, so what it comes to the program comes to.
  Conditions: none.
-/
import Derived.Test.YtfbldlgjlgcpoaaDoorAd
import Derived.Test.YtfbldlgjlgcpoaaDoorCode
import Derived.Test.YtfbldlgjlgcpoaaDoorEx6
namespace Go.Proofs.YtfbldlgjlgcpoaaDoor.AM
open Go.RowKit
theorem mixed : Tryd.prog.follows .mixedOrders = true := by kernel_rfl
theorem named : (Tryd.prog.funcs.all fun f => f.name != "runtime.NumGoroutine") = true := by kernel_rfl
theorem reads : Reads Tryd.prog GG FF := by
  refine ⟨fun f fn hf => ?_, known_ok (by decide)⟩
  have hf : (if skipped f then none else (Tryd.prog.funcs[f]?).bind (normFunc Tryd.prog GG ((ords.lookup f).getD []))) = some fn := hf
  split at hf
  · cases hf
  obtain ⟨pf, hp, hn⟩ := Option.bind_eq_some_iff.1 hf
  refine ⟨pf, _, hp, hn, ?_⟩
  have := Array.all_eq_true'.1 named pf (Array.mem_of_getElem? hp)
  simpa using this
end Go.Proofs.YtfbldlgjlgcpoaaDoor.AM
