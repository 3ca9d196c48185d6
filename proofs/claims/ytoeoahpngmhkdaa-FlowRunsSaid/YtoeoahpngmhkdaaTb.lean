/-
  The table of bits counted.
  Conditions: none.
-/
import Derived.Test.YtoeoahpngmhkdaaAe
import Derived.Test.YtoeoahpngmhkdaaCode
namespace Go.Proofs.Ytoeoahpngmhkdaa.AM
open Go.RowKit
end Go.Proofs.Ytoeoahpngmhkdaa.AM
