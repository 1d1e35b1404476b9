/-
  DERIVED. GIVEN WITH THE SEED: THE CARDS: each row of YtjlpdddmmnijoaaGreatDoorRows.lean that lists a variable, with what it lists TIED to the program's text (the seventh form; the later family's looks); each row that meets fmt, with fmt's text TOLD by the authors' own Lean function (tested against real Go, not proved from fmt's source: count such statements apart). THE CARD IS WHAT COUNTS. Prove the row's statement (the work); the ties are given (YtjlpdddmmnijoaaGreatDoorTie.lean); close each card by the builder's one call (the guide's Derived/Test/ToyasCard.lean, 'card_holds'). Laid BY PROGRAM, IN A SANDBOX (cutbox-door.mjs). By AI agents, Wed Nov 11 2026. No macro, syntax, notation, axiom, sorry.
-/
import Derived.Test.YtjlpdddmmnijoaaGreatDoorRows
import GoSem.ClaimSeven
namespace Go.Proofs.YtjlpdddmmnijoaaGreatDoor
namespace Rows

/-- THE TIED CARD OF 'oriellaw22.LevelPlaces'. -/
def levelPlacesCard : Claim7 := { stood := { row := levelPlacesRow, standIns := [], harness := (true, "acce5a44e76e813fa8be68f7659fb090a53a01d1cb2e9b67e7b1c89f68dfa280"), looks := false }, kinds := [], alts := [], laidByText := true, laidKinds := [.data, .data, .data], laidTests := true, laidLooks := .later }
def LevelPlacesCardSaid : Prop := Claim7.holds Tryz.pinned (.plain (OpenSpec.ofChange levelPlacesSpec)) levelPlacesCard

/-- THE TIED CARD OF 'oriellaw22.LevelOptions'. -/
def levelOptionsCard : Claim7 := { stood := { row := levelOptionsRow, standIns := [], harness := (true, "acce5a44e76e813fa8be68f7659fb090a53a01d1cb2e9b67e7b1c89f68dfa280"), looks := false }, kinds := [], alts := [], laidByText := true, laidKinds := [.data, .data, .data], laidTests := true, laidLooks := .later }
def LevelOptionsCardSaid : Prop := Claim7.holds Tryz.pinned (.plain (OpenSpec.ofChange levelOptionsSpec)) levelOptionsCard

/-- THE TIED CARD OF 'oriellaw22.LevelComes'. -/
def levelComesCard : Claim7 := { stood := { row := levelComesRow, standIns := [], harness := (true, "acce5a44e76e813fa8be68f7659fb090a53a01d1cb2e9b67e7b1c89f68dfa280"), looks := false }, kinds := [], alts := [], laidByText := true, laidKinds := [.data, .data, .data], laidTests := true, laidLooks := .later }
def LevelComesCardSaid : Prop := Claim7.holds Tryz.pinned (.plain (OpenSpec.ofChange levelComesSpec)) levelComesCard

/-- THE TIED CARD OF 'oriellaw22.LevelFuture'. -/
def levelFutureCard : Claim7 := { stood := { row := levelFutureRow, standIns := [], harness := (true, "acce5a44e76e813fa8be68f7659fb090a53a01d1cb2e9b67e7b1c89f68dfa280"), looks := false }, kinds := [], alts := [], laidByText := true, laidKinds := [.data, .data, .data], laidTests := true, laidLooks := .later }
def LevelFutureCardSaid : Prop := Claim7.holds Tryz.pinned (.plain (OpenSpec.ofChange levelFutureSpec)) levelFutureCard

/-- THE TIED CARD OF 'oriellaw22.LevelKeeps'. -/
def levelKeepsCard : Claim7 := { stood := { row := levelKeepsRow, standIns := [], harness := (true, "acce5a44e76e813fa8be68f7659fb090a53a01d1cb2e9b67e7b1c89f68dfa280"), looks := false }, kinds := [], alts := [], laidByText := true, laidKinds := [.data, .data, .data], laidTests := true, laidLooks := .later }
def LevelKeepsCardSaid : Prop := Claim7.holds Tryz.pinned (.plain (OpenSpec.ofChange levelKeepsSpec)) levelKeepsCard

/-- THE SECOND FORM's CARD OF 'oriellaw22.LevelPlaces'. -/
def levelPlacesUptoCard : Claim7 := { stood := { row := levelPlacesUptoRow, standIns := [], harness := (true, "acce5a44e76e813fa8be68f7659fb090a53a01d1cb2e9b67e7b1c89f68dfa280"), looks := false }, kinds := [], alts := [], laidByText := true, laidKinds := [.data, .data, .data], laidTests := true, laidLooks := .later }
def LevelPlacesUptoCardSaid : Prop := Claim7.holds Tryz.pinned (.plain (OpenSpec.upto levelPlacesSpec)) levelPlacesUptoCard

/-- THE SECOND FORM's CARD OF 'oriellaw22.LevelOptions'. -/
def levelOptionsUptoCard : Claim7 := { stood := { row := levelOptionsUptoRow, standIns := [], harness := (true, "acce5a44e76e813fa8be68f7659fb090a53a01d1cb2e9b67e7b1c89f68dfa280"), looks := false }, kinds := [], alts := [], laidByText := true, laidKinds := [.data, .data, .data], laidTests := true, laidLooks := .later }
def LevelOptionsUptoCardSaid : Prop := Claim7.holds Tryz.pinned (.plain (OpenSpec.upto levelOptionsSpec)) levelOptionsUptoCard

/-- THE SECOND FORM's CARD OF 'oriellaw22.LevelComes'. -/
def levelComesUptoCard : Claim7 := { stood := { row := levelComesUptoRow, standIns := [], harness := (true, "acce5a44e76e813fa8be68f7659fb090a53a01d1cb2e9b67e7b1c89f68dfa280"), looks := false }, kinds := [], alts := [], laidByText := true, laidKinds := [.data, .data, .data], laidTests := true, laidLooks := .later }
def LevelComesUptoCardSaid : Prop := Claim7.holds Tryz.pinned (.plain (OpenSpec.upto levelComesSpec)) levelComesUptoCard

/-- THE SECOND FORM's CARD OF 'oriellaw22.LevelFuture'. -/
def levelFutureUptoCard : Claim7 := { stood := { row := levelFutureUptoRow, standIns := [], harness := (true, "acce5a44e76e813fa8be68f7659fb090a53a01d1cb2e9b67e7b1c89f68dfa280"), looks := false }, kinds := [], alts := [], laidByText := true, laidKinds := [.data, .data, .data], laidTests := true, laidLooks := .later }
def LevelFutureUptoCardSaid : Prop := Claim7.holds Tryz.pinned (.plain (OpenSpec.upto levelFutureSpec)) levelFutureUptoCard

/-- THE SECOND FORM's CARD OF 'oriellaw22.LevelKeeps'. -/
def levelKeepsUptoCard : Claim7 := { stood := { row := levelKeepsUptoRow, standIns := [], harness := (true, "acce5a44e76e813fa8be68f7659fb090a53a01d1cb2e9b67e7b1c89f68dfa280"), looks := false }, kinds := [], alts := [], laidByText := true, laidKinds := [.data, .data, .data], laidTests := true, laidLooks := .later }
def LevelKeepsUptoCardSaid : Prop := Claim7.holds Tryz.pinned (.plain (OpenSpec.upto levelKeepsSpec)) levelKeepsUptoCard
end Rows
end Go.Proofs.YtjlpdddmmnijoaaGreatDoor
