/-
  DERIVED. GIVEN WITH THE SEED: THE CARDS: each row of YtbekeboballbgaaGreatDoorRows.lean that lists a variable, with what it lists TIED to the program's text (the seventh form; the later family's looks); each row that meets fmt, with fmt's text TOLD by the authors' own Lean function (tested against real Go, not proved from fmt's source: count such statements apart). THE CARD IS WHAT COUNTS. Prove the row's statement (the work); the ties are given (YtbekeboballbgaaGreatDoorTie.lean); close each card by the builder's one call (the guide's Derived/Test/ToyasCard.lean, 'card_holds'). Laid BY PROGRAM, IN A SANDBOX (cutbox-door.mjs). By AI agents, Wed Nov 11 2026. No macro, syntax, notation, axiom, sorry.
-/
import Derived.Test.YtbekeboballbgaaGreatDoorRows
import GoSem.ClaimSeven
namespace Go.Proofs.YtbekeboballbgaaGreatDoor
namespace Rows

/-- THE TIED CARD OF 'oriellaw23.ViewOutcomes'. -/
def viewOutcomesCard : Claim7 := { stood := { row := viewOutcomesRow, standIns := [], harness := (true, "6b3efda130791f0840c6017e131418e4d34bb1ad91f73af7d85e3851e4376999"), looks := false }, kinds := [], alts := [], laidByText := true, laidKinds := [.data, .data, .data], laidTests := true, laidLooks := .later }
def ViewOutcomesCardSaid : Prop := Claim7.holds Tryz.pinned (.plain (OpenSpec.ofChange viewOutcomesSpec)) viewOutcomesCard

/-- THE TIED CARD OF 'oriellaw23.ViewKeeps'. -/
def viewKeepsCard : Claim7 := { stood := { row := viewKeepsRow, standIns := [], harness := (true, "6b3efda130791f0840c6017e131418e4d34bb1ad91f73af7d85e3851e4376999"), looks := false }, kinds := [], alts := [], laidByText := true, laidKinds := [.data, .data, .data], laidTests := true, laidLooks := .later }
def ViewKeepsCardSaid : Prop := Claim7.holds Tryz.pinned (.plain (OpenSpec.ofChange viewKeepsSpec)) viewKeepsCard

/-- THE TIED CARD OF 'oriellaw23.ViewDone'. -/
def viewDoneCard : Claim7 := { stood := { row := viewDoneRow, standIns := [], harness := (true, "6b3efda130791f0840c6017e131418e4d34bb1ad91f73af7d85e3851e4376999"), looks := false }, kinds := [], alts := [], laidByText := true, laidKinds := [.data, .data, .data], laidTests := true, laidLooks := .later }
def ViewDoneCardSaid : Prop := Claim7.holds Tryz.pinned (.plain (OpenSpec.ofChange viewDoneSpec)) viewDoneCard

/-- THE SECOND FORM's CARD OF 'oriellaw23.ViewOutcomes'. -/
def viewOutcomesUptoCard : Claim7 := { stood := { row := viewOutcomesUptoRow, standIns := [], harness := (true, "6b3efda130791f0840c6017e131418e4d34bb1ad91f73af7d85e3851e4376999"), looks := false }, kinds := [], alts := [], laidByText := true, laidKinds := [.data, .data, .data], laidTests := true, laidLooks := .later }
def ViewOutcomesUptoCardSaid : Prop := Claim7.holds Tryz.pinned (.plain (OpenSpec.upto viewOutcomesSpec)) viewOutcomesUptoCard

/-- THE SECOND FORM's CARD OF 'oriellaw23.ViewKeeps'. -/
def viewKeepsUptoCard : Claim7 := { stood := { row := viewKeepsUptoRow, standIns := [], harness := (true, "6b3efda130791f0840c6017e131418e4d34bb1ad91f73af7d85e3851e4376999"), looks := false }, kinds := [], alts := [], laidByText := true, laidKinds := [.data, .data, .data], laidTests := true, laidLooks := .later }
def ViewKeepsUptoCardSaid : Prop := Claim7.holds Tryz.pinned (.plain (OpenSpec.upto viewKeepsSpec)) viewKeepsUptoCard

/-- THE SECOND FORM's CARD OF 'oriellaw23.ViewDone'. -/
def viewDoneUptoCard : Claim7 := { stood := { row := viewDoneUptoRow, standIns := [], harness := (true, "6b3efda130791f0840c6017e131418e4d34bb1ad91f73af7d85e3851e4376999"), looks := false }, kinds := [], alts := [], laidByText := true, laidKinds := [.data, .data, .data], laidTests := true, laidLooks := .later }
def ViewDoneUptoCardSaid : Prop := Claim7.holds Tryz.pinned (.plain (OpenSpec.upto viewDoneSpec)) viewDoneUptoCard
end Rows
end Go.Proofs.YtbekeboballbgaaGreatDoor
