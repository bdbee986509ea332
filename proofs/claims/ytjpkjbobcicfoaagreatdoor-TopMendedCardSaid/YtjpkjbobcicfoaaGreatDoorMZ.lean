/-
  The call 'TopMended' starts no goroutine by its text. Conditions: none.
-/
import Derived.Test.YtjpkjbobcicfoaaGreatDoorCards
set_option linter.unusedSimpArgs false
set_option linter.unusedVariables false
namespace Go.Proofs.YtjpkjbobcicfoaaGreatDoor
set_option maxRecDepth 100000
theorem topMended_goes:false=Rows.topMendedRow.goesBy Tryz.pinned.checked.prog:=by kernel_rfl
end Go.Proofs.YtjpkjbobcicfoaaGreatDoor
