/-
  The closed facts of the row 'TopLeast'; a world in which what is listed is laid. Conditions: none.
-/
import Derived.SevenTiedAt
import Derived.Test.YtjpkjbobcicfoaaGreatDoorEU
import Derived.Test.YtjpkjbobcicfoaaGreatDoorEV
set_option linter.unusedSimpArgs false
set_option linter.unusedVariables false
namespace Go.Proofs.YtjpkjbobcicfoaaGreatDoor
open Go.ChangeShapes Go.WideShapes Go.ChangeAt Go.RowKit Go.Av
set_option maxRecDepth 100000 in
theorem topLeast_met (os : Os) (args : Array Value) : laidMetH Tryz.prog Rows.topLeastRow.laid ((World.laidAll Tryz.prog os Rows.topLeastRow.laid).forCall (fun _ _ => 0) ⟨#[], args, []⟩).memory := by
  rw [MakeChecks.laidMetH_plain _ _ _ (by kernel_rfl)]
  exact laidMet_laidAll _ (by kernel_rfl) (by kernel_rfl)
theorem topLeast_a : (Rows.topLeastRow.inPlace == pj.inPlace 3) = true := by kernel_rfl
theorem topLeast_b : (Rows.topLeastRow.unfollowed == pj.unfollowed 3) = true := by kernel_rfl
theorem topLeast_c : (Rows.topLeastRow.recurses == pj.recurses 3) = true := by kernel_rfl
theorem topLeast_d : (Rows.topLeastRow.named == pj.varsNamed 3) = true := by kernel_rfl
theorem topLeast_e : pj.funcNamed Rows.topLeastRow.func = some 3 := by kernel_rfl
theorem topLeast_closed : joinedFacts pj 3 Tryz.f3 Rows.topLeastSpec Rows.topLeastRow = true :=
  joined_of (by kernel_rfl) topLeast_a topLeast_b topLeast_c topLeast_d (by kernel_rfl) (by kernel_rfl) rfl (by kernel_rfl) (by kernel_rfl)
end Go.Proofs.YtjpkjbobcicfoaaGreatDoor
