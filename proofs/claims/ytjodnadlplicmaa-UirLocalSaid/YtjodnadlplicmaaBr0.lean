/-
  The program's functions are those that the abstract machine reads, so what it comes to the program comes to.
  Conditions: none.
-/
import Derived.Test.YtjodnadlplicmaaAd
import Derived.Test.YtjodnadlplicmaaCode
namespace Go.Proofs.Ytjodnadlplicmaa.AM
open Go.RowKit
theorem mixed : Try.prog.follows .mixedOrders = true := by kernel_rfl
theorem named : (Try.prog.funcs.all fun f => f.name != "runtime.NumGoroutine") = true := by kernel_rfl
theorem reads : Reads Try.prog GG FF := by
  intro f fn hf
  obtain ⟨pf, hp, hn⟩ := Option.bind_eq_some_iff.1 hf
  refine ⟨pf, _, hp, hn, ?_⟩
  have := Array.all_eq_true'.1 named pf (Array.mem_of_getElem? hp)
  simpa using this
end Go.Proofs.Ytjodnadlplicmaa.AM
