/-
  Layer 11, the document's answer: the set of symbols. Conditions: none.
-/
import Derived.Test.YtiiogleijmcccaaF4
namespace Go.Av
open Go.Proofs
set_option maxRecDepth 100000
set_option linter.unusedSimpArgs false
set_option linter.unusedVariables false

end Go.Av

