/-
  DERIVED. GIVEN WITH THE SEED: THE CARDS: each row of YtjpkjbobcicfoaaGreatDoorRows.lean that lists a variable, with what it lists TIED to the program's text (the seventh form; the later family's looks); each row that meets fmt, with fmt's text TOLD by the authors' own Lean function (tested against real Go, not proved from fmt's source: count such statements apart). THE CARD IS WHAT COUNTS. Prove the row's statement (the work); the ties are given (YtjpkjbobcicfoaaGreatDoorTie.lean); close each card by the builder's one call (the guide's Derived/Test/ToyasCard.lean, 'card_holds'). Laid BY PROGRAM, IN A SANDBOX (cutbox-door.mjs). By AI agents, Wed Nov 11 2026. No macro, syntax, notation, axiom, sorry.
-/
import Derived.Test.YtjpkjbobcicfoaaGreatDoorRows
import GoSem.ClaimSeven
namespace Go.Proofs.YtjpkjbobcicfoaaGreatDoor
namespace Rows

/-- THE TIED CARD OF 'probatetop.TopLeast'. -/
def topLeastCard : Claim7 := { stood := { row := topLeastRow, standIns := [], harness := (true, "9a2223c0e623d2a7255a7e90fedba5b1c317b3493a2253b8a894418ce558486a"), looks := true }, kinds := [], alts := [], laidByText := true, laidKinds := [.data, .data, .data, .data, .sentinel, .sentinel, .sentinel, .pinned], laidTests := true, laidLooks := .later }
def TopLeastCardSaid : Prop := Claim7.holds Tryz.pinned (.plain (OpenSpec.ofChange topLeastSpec)) topLeastCard

/-- THE TIED CARD OF 'probatetop.TopMended'. -/
def topMendedCard : Claim7 := { stood := { row := topMendedRow, standIns := [], harness := (true, "9a2223c0e623d2a7255a7e90fedba5b1c317b3493a2253b8a894418ce558486a"), looks := true }, kinds := [], alts := [], laidByText := true, laidKinds := [.data, .data, .data, .data, .sentinel, .sentinel, .sentinel, .pinned], laidTests := true, laidLooks := .later }
def TopMendedCardSaid : Prop := Claim7.holds Tryz.pinned (.plain (OpenSpec.ofChange topMendedSpec)) topMendedCard

/-- THE TIED CARD OF 'probatetop.TopText'. -/
def topTextCard : Claim7 := { stood := { row := topTextRow, standIns := [], harness := (true, "9a2223c0e623d2a7255a7e90fedba5b1c317b3493a2253b8a894418ce558486a"), looks := true }, kinds := [], alts := [], laidByText := true, laidKinds := [.data, .data, .data, .data, .sentinel, .sentinel, .sentinel, .pinned], laidTests := true, laidLooks := .later }
def TopTextCardSaid : Prop := Claim7.holds Tryz.pinned (.plain (OpenSpec.ofChange topTextSpec)) topTextCard

/-- THE SECOND FORM's CARD OF 'probatetop.TopLeast'. -/
def topLeastUptoCard : Claim7 := { stood := { row := topLeastUptoRow, standIns := [], harness := (true, "9a2223c0e623d2a7255a7e90fedba5b1c317b3493a2253b8a894418ce558486a"), looks := true }, kinds := [], alts := [], laidByText := true, laidKinds := [.data, .data, .data, .data, .sentinel, .sentinel, .sentinel, .pinned], laidTests := true, laidLooks := .later }
def TopLeastUptoCardSaid : Prop := Claim7.holds Tryz.pinned (.plain (OpenSpec.upto topLeastSpec)) topLeastUptoCard

/-- THE SECOND FORM's CARD OF 'probatetop.TopMended'. -/
def topMendedUptoCard : Claim7 := { stood := { row := topMendedUptoRow, standIns := [], harness := (true, "9a2223c0e623d2a7255a7e90fedba5b1c317b3493a2253b8a894418ce558486a"), looks := true }, kinds := [], alts := [], laidByText := true, laidKinds := [.data, .data, .data, .data, .sentinel, .sentinel, .sentinel, .pinned], laidTests := true, laidLooks := .later }
def TopMendedUptoCardSaid : Prop := Claim7.holds Tryz.pinned (.plain (OpenSpec.upto topMendedSpec)) topMendedUptoCard

/-- THE SECOND FORM's CARD OF 'probatetop.TopText'. -/
def topTextUptoCard : Claim7 := { stood := { row := topTextUptoRow, standIns := [], harness := (true, "9a2223c0e623d2a7255a7e90fedba5b1c317b3493a2253b8a894418ce558486a"), looks := true }, kinds := [], alts := [], laidByText := true, laidKinds := [.data, .data, .data, .data, .sentinel, .sentinel, .sentinel, .pinned], laidTests := true, laidLooks := .later }
def TopTextUptoCardSaid : Prop := Claim7.holds Tryz.pinned (.plain (OpenSpec.upto topTextSpec)) topTextUptoCard
end Rows
end Go.Proofs.YtjpkjbobcicfoaaGreatDoor
