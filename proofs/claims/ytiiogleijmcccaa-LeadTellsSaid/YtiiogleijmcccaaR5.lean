/-
  Layer 10, the document's answer: do facts show who is reached? Conditions: none.
-/
import Derived.Test.YtiiogleijmcccaaR4
namespace Go.Av
open Go.Proofs
set_option maxRecDepth 100000
set_option linter.unusedSimpArgs false
set_option linter.unusedVariables false

end Go.Av

