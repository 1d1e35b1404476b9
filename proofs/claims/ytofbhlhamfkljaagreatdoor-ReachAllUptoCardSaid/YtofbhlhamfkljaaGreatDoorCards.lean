/-
  DERIVED. GIVEN WITH THE SEED: THE CARDS: each row of YtofbhlhamfkljaaGreatDoorRows.lean that lists a variable, with what it lists TIED to the program's text (the seventh form; the later family's looks); each row that meets fmt, with fmt's text TOLD by the authors' own Lean function (tested against real Go, not proved from fmt's source: count such statements apart). THE CARD IS WHAT COUNTS. Prove the row's statement (the work); the ties are given (YtofbhlhamfkljaaGreatDoorTie.lean); close each card by the builder's one call (the guide's Derived/Test/ToyasCard.lean, 'card_holds'). Laid BY PROGRAM, IN A SANDBOX (cutbox-door.mjs). By AI agents, Wed Nov 11 2026. No macro, syntax, notation, axiom, sorry.
-/
import Derived.Test.YtofbhlhamfkljaaGreatDoorRows
import GoSem.ClaimSeven
namespace Go.Proofs.YtofbhlhamfkljaaGreatDoor
namespace Rows

/-- THE TIED CARD OF 'oriellaw21.ReachMakes'. -/
def reachMakesCard : Claim7 := { stood := { row := reachMakesRow, standIns := [], harness := (true, "dd40d9280a0643f47b8e4cc66b2263478d2f29b76af47da8c200d629184ad7ed"), looks := false }, kinds := [], alts := [], laidByText := true, laidKinds := [.data, .data, .data], laidTests := true, laidLooks := .later }
def ReachMakesCardSaid : Prop := Claim7.holds Tryz.pinned (.plain (OpenSpec.ofChange reachMakesSpec)) reachMakesCard

/-- THE TIED CARD OF 'oriellaw21.ReachKeeps'. -/
def reachKeepsCard : Claim7 := { stood := { row := reachKeepsRow, standIns := [], harness := (true, "dd40d9280a0643f47b8e4cc66b2263478d2f29b76af47da8c200d629184ad7ed"), looks := false }, kinds := [], alts := [], laidByText := true, laidKinds := [.data, .data, .data], laidTests := true, laidLooks := .later }
def ReachKeepsCardSaid : Prop := Claim7.holds Tryz.pinned (.plain (OpenSpec.ofChange reachKeepsSpec)) reachKeepsCard

/-- THE TIED CARD OF 'oriellaw21.ReachGrows'. -/
def reachGrowsCard : Claim7 := { stood := { row := reachGrowsRow, standIns := [], harness := (true, "dd40d9280a0643f47b8e4cc66b2263478d2f29b76af47da8c200d629184ad7ed"), looks := false }, kinds := [], alts := [], laidByText := true, laidKinds := [.data, .data, .data], laidTests := true, laidLooks := .later }
def ReachGrowsCardSaid : Prop := Claim7.holds Tryz.pinned (.plain (OpenSpec.ofChange reachGrowsSpec)) reachGrowsCard

/-- THE TIED CARD OF 'oriellaw21.ReachNexts'. -/
def reachNextsCard : Claim7 := { stood := { row := reachNextsRow, standIns := [], harness := (true, "dd40d9280a0643f47b8e4cc66b2263478d2f29b76af47da8c200d629184ad7ed"), looks := false }, kinds := [], alts := [], laidByText := true, laidKinds := [.data, .data, .data], laidTests := true, laidLooks := .later }
def ReachNextsCardSaid : Prop := Claim7.holds Tryz.pinned (.plain (OpenSpec.ofChange reachNextsSpec)) reachNextsCard

/-- THE TIED CARD OF 'oriellaw21.ReachRows'. -/
def reachRowsCard : Claim7 := { stood := { row := reachRowsRow, standIns := [], harness := (true, "dd40d9280a0643f47b8e4cc66b2263478d2f29b76af47da8c200d629184ad7ed"), looks := false }, kinds := [], alts := [], laidByText := true, laidKinds := [.data, .data, .data], laidTests := true, laidLooks := .later }
def ReachRowsCardSaid : Prop := Claim7.holds Tryz.pinned (.plain (OpenSpec.ofChange reachRowsSpec)) reachRowsCard

/-- THE TIED CARD OF 'oriellaw21.ReachAll'. -/
def reachAllCard : Claim7 := { stood := { row := reachAllRow, standIns := [], harness := (true, "dd40d9280a0643f47b8e4cc66b2263478d2f29b76af47da8c200d629184ad7ed"), looks := false }, kinds := [], alts := [], laidByText := true, laidKinds := [.data, .data, .data], laidTests := true, laidLooks := .later }
def ReachAllCardSaid : Prop := Claim7.holds Tryz.pinned (.plain (OpenSpec.ofChange reachAllSpec)) reachAllCard

/-- THE SECOND FORM's CARD OF 'oriellaw21.ReachMakes'. -/
def reachMakesUptoCard : Claim7 := { stood := { row := reachMakesUptoRow, standIns := [], harness := (true, "dd40d9280a0643f47b8e4cc66b2263478d2f29b76af47da8c200d629184ad7ed"), looks := false }, kinds := [], alts := [], laidByText := true, laidKinds := [.data, .data, .data], laidTests := true, laidLooks := .later }
def ReachMakesUptoCardSaid : Prop := Claim7.holds Tryz.pinned (.plain (OpenSpec.upto reachMakesSpec)) reachMakesUptoCard

/-- THE SECOND FORM's CARD OF 'oriellaw21.ReachKeeps'. -/
def reachKeepsUptoCard : Claim7 := { stood := { row := reachKeepsUptoRow, standIns := [], harness := (true, "dd40d9280a0643f47b8e4cc66b2263478d2f29b76af47da8c200d629184ad7ed"), looks := false }, kinds := [], alts := [], laidByText := true, laidKinds := [.data, .data, .data], laidTests := true, laidLooks := .later }
def ReachKeepsUptoCardSaid : Prop := Claim7.holds Tryz.pinned (.plain (OpenSpec.upto reachKeepsSpec)) reachKeepsUptoCard

/-- THE SECOND FORM's CARD OF 'oriellaw21.ReachGrows'. -/
def reachGrowsUptoCard : Claim7 := { stood := { row := reachGrowsUptoRow, standIns := [], harness := (true, "dd40d9280a0643f47b8e4cc66b2263478d2f29b76af47da8c200d629184ad7ed"), looks := false }, kinds := [], alts := [], laidByText := true, laidKinds := [.data, .data, .data], laidTests := true, laidLooks := .later }
def ReachGrowsUptoCardSaid : Prop := Claim7.holds Tryz.pinned (.plain (OpenSpec.upto reachGrowsSpec)) reachGrowsUptoCard

/-- THE SECOND FORM's CARD OF 'oriellaw21.ReachNexts'. -/
def reachNextsUptoCard : Claim7 := { stood := { row := reachNextsUptoRow, standIns := [], harness := (true, "dd40d9280a0643f47b8e4cc66b2263478d2f29b76af47da8c200d629184ad7ed"), looks := false }, kinds := [], alts := [], laidByText := true, laidKinds := [.data, .data, .data], laidTests := true, laidLooks := .later }
def ReachNextsUptoCardSaid : Prop := Claim7.holds Tryz.pinned (.plain (OpenSpec.upto reachNextsSpec)) reachNextsUptoCard

/-- THE SECOND FORM's CARD OF 'oriellaw21.ReachRows'. -/
def reachRowsUptoCard : Claim7 := { stood := { row := reachRowsUptoRow, standIns := [], harness := (true, "dd40d9280a0643f47b8e4cc66b2263478d2f29b76af47da8c200d629184ad7ed"), looks := false }, kinds := [], alts := [], laidByText := true, laidKinds := [.data, .data, .data], laidTests := true, laidLooks := .later }
def ReachRowsUptoCardSaid : Prop := Claim7.holds Tryz.pinned (.plain (OpenSpec.upto reachRowsSpec)) reachRowsUptoCard

/-- THE SECOND FORM's CARD OF 'oriellaw21.ReachAll'. -/
def reachAllUptoCard : Claim7 := { stood := { row := reachAllUptoRow, standIns := [], harness := (true, "dd40d9280a0643f47b8e4cc66b2263478d2f29b76af47da8c200d629184ad7ed"), looks := false }, kinds := [], alts := [], laidByText := true, laidKinds := [.data, .data, .data], laidTests := true, laidLooks := .later }
def ReachAllUptoCardSaid : Prop := Claim7.holds Tryz.pinned (.plain (OpenSpec.upto reachAllSpec)) reachAllUptoCard
end Rows
end Go.Proofs.YtofbhlhamfkljaaGreatDoor
