/-
  Codes: the first rule that they break, as the document has it.
  Conditions: each is shorter than 2^62.
-/
import Derived.Test.YtoeoahpngmhkdaaUa5
namespace Go.Proofs.Ytoeoahpngmhkdaa.AM
open Go.RowKit
set_option linter.unusedSimpArgs false
set_option linter.unusedVariables false

end Go.Proofs.Ytoeoahpngmhkdaa.AM
