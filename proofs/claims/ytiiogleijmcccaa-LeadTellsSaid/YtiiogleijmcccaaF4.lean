/-
  Layer 11, the document's answer: sets as rows of bools. Conditions: none.
-/
import Derived.Test.YtiiogleijmcccaaF3
namespace Go.Av
open Go.Proofs
set_option maxRecDepth 100000
set_option linter.unusedSimpArgs false
set_option linter.unusedVariables false

/-- Thirty-two bools. -/
def cB (f : Nat → Bool) : List AV := (List.range 32).map fun t => .bool (f t)

def eSt (n : Nat) : List AV := cB n.testBit

theorem rfs_bl {fr : Bool} {d : Nat} {h : Heap} {f : Nat → Bool} : ∀ l : List Nat, rfs fr (d + 2) h (l.map fun t => .bool (f t)) = some (l.map fun t => .bool (f t))
  | [] => rfs_nil
  | x :: l => rfs_cons (by simp [rf]) (rfs_bl l)

theorem rfs_st {fr : Bool} {d : Nat} {h : Heap} {x : Nat} : rfs fr (d + 2) h (eSt x) = some (eSt x) := rfs_bl _

theorem rfe_st {fr : Bool} {d : Nat} {h : Heap} {l : List Nat} : rfe fr (d + 3) h (l.map eSt) = some (l.map eSt) := rfe_map fun x _ => rfs_st

end Go.Av

