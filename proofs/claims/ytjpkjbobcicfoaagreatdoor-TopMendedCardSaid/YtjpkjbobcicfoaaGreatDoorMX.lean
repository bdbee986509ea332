/-
  The closed facts of the row 'TopMended'; a world in which what is listed is laid. Conditions: none.
-/
import Derived.SevenTiedAt
import Derived.Test.YtjpkjbobcicfoaaGreatDoorEU
import Derived.Test.YtjpkjbobcicfoaaGreatDoorEV
set_option linter.unusedSimpArgs false
set_option linter.unusedVariables false
namespace Go.Proofs.YtjpkjbobcicfoaaGreatDoor
open Go.ChangeShapes Go.WideShapes Go.ChangeAt Go.RowKit Go.Av
set_option maxRecDepth 100000 in
theorem topMended_met (os:Os) (args:Array Value):laidMetH Tryz.prog Rows.topMendedRow.laid ((World.laidAll Tryz.prog os Rows.topMendedRow.laid).forCall (fun _ _=>0) ⟨#[],args,[]⟩).memory:=by
 rw[MakeChecks.laidMetH_plain _ _ _ (by kernel_rfl)];exact laidMet_laidAll _ (by kernel_rfl) (by kernel_rfl)
theorem topMended_a:(Rows.topMendedRow.inPlace==pj.inPlace 4)=true:=by kernel_rfl
theorem topMended_b:(Rows.topMendedRow.unfollowed==pj.unfollowed 4)=true:=by kernel_rfl
theorem topMended_c:(Rows.topMendedRow.recurses==pj.recurses 4)=true:=by kernel_rfl
theorem topMended_d:(Rows.topMendedRow.named==pj.varsNamed 4)=true:=by kernel_rfl
theorem topMended_e:pj.funcNamed Rows.topMendedRow.func=some 4:=by kernel_rfl
theorem topMended_closed:joinedFacts pj 4 Tryz.f4 Rows.topMendedSpec Rows.topMendedRow=true:=
 joined_of (by kernel_rfl) topMended_a topMended_b topMended_c topMended_d (by kernel_rfl) (by kernel_rfl) rfl (by kernel_rfl) (by kernel_rfl)
end Go.Proofs.YtjpkjbobcicfoaaGreatDoor
