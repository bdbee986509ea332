/-
  Layer 11: are numbers the same; the calls whose answers the document fixes. Conditions: none.
-/
import Derived.Test.YtiiogleijmcccaaF5
namespace Go.Av
open Go.Proofs
set_option maxRecDepth 100000
set_option linter.unusedSimpArgs false
set_option linter.unusedVariables false

def gc : Gr := ⟨2, 2, 0, [⟨0, [⟨true, 1⟩, ⟨false, 1⟩]⟩, ⟨1, [⟨false, 0⟩]⟩, ⟨1, []⟩]⟩

end Go.Av

