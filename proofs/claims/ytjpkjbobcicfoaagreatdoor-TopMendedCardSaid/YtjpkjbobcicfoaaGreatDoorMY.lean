/-
  Closed facts of the card 'TopMended'. Conditions: none.
-/
import Derived.Test.YtjpkjbobcicfoaaGreatDoorCards
import Derived.SevenTiedAt
set_option linter.unusedSimpArgs false
set_option linter.unusedVariables false
namespace Go.Proofs.YtjpkjbobcicfoaaGreatDoor
set_option maxRecDepth 100000
theorem topMended_h1:Rows.topMendedRow.wfByText (OpenSpec.ofChange Rows.topMendedSpec)=true:=by kernel_rfl
theorem seat_main:Tryz.pinned.checked.prog.mainIs=some (true, "9a2223c0e623d2a7255a7e90fedba5b1c317b3493a2253b8a894418ce558486a".toList):=by kernel_rfl
theorem seat_looks:true=Tryz.pinned.checked.prog.looks []:=by kernel_rfl
theorem topMended_h4:([24,25].all fun u=> !Tryz.prog.wantsStandIn u)=true:=by kernel_rfl
theorem topMended_h6:Tryz.prog.funcNamed "probate/probatetop.TopMended" =some 4:=by kernel_rfl
end Go.Proofs.YtjpkjbobcicfoaaGreatDoor
