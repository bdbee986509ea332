/-
  Layer 15, the document's answer: Replay. Conditions: none.
-/
import Derived.Test.YtjpkjbobcicfoaaGreatDoorT7
set_option linter.unusedSimpArgs false
set_option linter.unusedVariables false
namespace Go.Av
open Go.Proofs
set_option maxRecDepth 100000
end Go.Av
