/-
  Layer 11's statement FirstMeans: the walk. Conditions: none.
-/
import Derived.Test.YtiiogleijmcccaaC11b
namespace Go.Av
open Go.Proofs
set_option maxRecDepth 100000
set_option linter.unusedSimpArgs false
set_option linter.unusedVariables false

end Go.Av

