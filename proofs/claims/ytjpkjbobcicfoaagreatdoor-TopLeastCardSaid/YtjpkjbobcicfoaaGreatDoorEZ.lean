/-
  The call 'TopLeast' starts no goroutine by its text. Conditions: none.
-/
import Derived.Test.YtjpkjbobcicfoaaGreatDoorCards
set_option linter.unusedSimpArgs false
set_option linter.unusedVariables false
namespace Go.Proofs.YtjpkjbobcicfoaaGreatDoor
set_option maxRecDepth 100000
theorem topLeast_goes : false = Rows.topLeastRow.goesBy Tryz.pinned.checked.prog := by kernel_rfl
end Go.Proofs.YtjpkjbobcicfoaaGreatDoor
