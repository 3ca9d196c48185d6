/-
  The table of bits counted.
  Conditions: none.
-/
import Derived.Test.YtjodnadlplicmaaAe
import Derived.Test.YtjodnadlplicmaaCode
namespace Go.Proofs.Ytjodnadlplicmaa.AM
open Go.RowKit
end Go.Proofs.Ytjodnadlplicmaa.AM
