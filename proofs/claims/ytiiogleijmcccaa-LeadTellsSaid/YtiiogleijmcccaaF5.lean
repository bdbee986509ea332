/-
  Layer 11: the set of symbols of a grammar. Conditions: none.
-/
import Derived.Test.YtiiogleijmcccaaF3
namespace Go.Av
open Go.Proofs
set_option maxRecDepth 100000
set_option linter.unusedSimpArgs false
set_option linter.unusedVariables false

def ofL (g : Gr) (l : List Sy) : Nat × Bool := if right g && l.all (there g) then rowW (firstL g) (ranksL g false) 0 l else (0, false)

end Go.Av

