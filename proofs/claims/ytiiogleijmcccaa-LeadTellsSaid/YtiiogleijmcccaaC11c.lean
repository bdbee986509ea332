/-
  Layer 11, the plain law: just so much as must be is in the sets. Conditions: none.
-/
import Derived.Test.YtiiogleijmcccaaC11b
namespace Go.Av
open Go.Proofs
set_option linter.unusedSimpArgs false
set_option linter.unusedVariables false

def orF (g : Gr) (acc : List Nat) (p : Pr) : List Nat := acc.set p.left.toNat (acc.getD p.left.toNat 0 ||| (ofL g p.right).1)

end Go.Av
