/-
  DERIVED. GIVEN WITH THE SEED: THE CARDS: each row of YtnohglkilpnjhaaGreatDoorRows.lean that lists a variable, with what it lists TIED to the program's text (the seventh form; the later family's looks); each row that meets fmt, with fmt's text TOLD by the authors' own Lean function (tested against real Go, not proved from fmt's source: count such statements apart). THE CARD IS WHAT COUNTS. Prove the row's statement (the work); the ties are given (YtnohglkilpnjhaaGreatDoorTie.lean); close each card by the builder's one call (the guide's Derived/Test/ToyasCard.lean, 'card_holds'). Laid BY PROGRAM, IN A SANDBOX (cutbox-door.mjs). By AI agents, Wed Nov 11 2026. No macro, syntax, notation, axiom, sorry.
-/
import Derived.Test.YtnohglkilpnjhaaGreatDoorRows
import GoSem.ClaimSeven
namespace Go.Proofs.YtnohglkilpnjhaaGreatDoor
namespace Rows

/-- THE TIED CARD OF 'starlinglaw19.OriginRight'. -/
def originRightCard : Claim7 := { stood := { row := originRightRow, standIns := [], harness := (true, "d3fb2eb97dcf88c01aedaa8b928242685c57b4b946fb95a73f9cc7dea895f21d"), looks := false }, kinds := [], alts := [], laidByText := true, laidKinds := [.data], laidTests := true, laidLooks := .later }
def OriginRightCardSaid : Prop := Claim7.holds Tryz.pinned (.plain (OpenSpec.ofChange originRightSpec)) originRightCard

/-- THE TIED CARD OF 'starlinglaw19.OriginNames'. -/
def originNamesCard : Claim7 := { stood := { row := originNamesRow, standIns := [], harness := (true, "d3fb2eb97dcf88c01aedaa8b928242685c57b4b946fb95a73f9cc7dea895f21d"), looks := false }, kinds := [], alts := [], laidByText := true, laidKinds := [.data], laidTests := true, laidLooks := .later }
def OriginNamesCardSaid : Prop := Claim7.holds Tryz.pinned (.plain (OpenSpec.ofChange originNamesSpec)) originNamesCard

/-- THE TIED CARD OF 'starlinglaw19.OriginTells'. -/
def originTellsCard : Claim7 := { stood := { row := originTellsRow, standIns := [], harness := (true, "d3fb2eb97dcf88c01aedaa8b928242685c57b4b946fb95a73f9cc7dea895f21d"), looks := false }, kinds := [], alts := [], laidByText := true, laidKinds := [.data], laidTests := true, laidLooks := .later }
def OriginTellsCardSaid : Prop := Claim7.holds Tryz.pinned (.plain (OpenSpec.ofChange originTellsSpec)) originTellsCard

/-- THE TIED CARD OF 'starlinglaw19.OriginSame'. -/
def originSameCard : Claim7 := { stood := { row := originSameRow, standIns := [], harness := (true, "d3fb2eb97dcf88c01aedaa8b928242685c57b4b946fb95a73f9cc7dea895f21d"), looks := false }, kinds := [], alts := [], laidByText := true, laidKinds := [.data], laidTests := true, laidLooks := .later }
def OriginSameCardSaid : Prop := Claim7.holds Tryz.pinned (.plain (OpenSpec.ofChange originSameSpec)) originSameCard

/-- THE TIED CARD OF 'starlinglaw19.OriginScripts'. -/
def originScriptsCard : Claim7 := { stood := { row := originScriptsRow, standIns := [], harness := (true, "d3fb2eb97dcf88c01aedaa8b928242685c57b4b946fb95a73f9cc7dea895f21d"), looks := false }, kinds := [], alts := [], laidByText := true, laidKinds := [.data], laidTests := true, laidLooks := .later }
def OriginScriptsCardSaid : Prop := Claim7.holds Tryz.pinned (.plain (OpenSpec.ofChange originScriptsSpec)) originScriptsCard

/-- THE TIED CARD OF 'starlinglaw19.OriginGives'. -/
def originGivesCard : Claim7 := { stood := { row := originGivesRow, standIns := [], harness := (true, "d3fb2eb97dcf88c01aedaa8b928242685c57b4b946fb95a73f9cc7dea895f21d"), looks := false }, kinds := [], alts := [], laidByText := true, laidKinds := [.data], laidTests := true, laidLooks := .later }
def OriginGivesCardSaid : Prop := Claim7.holds Tryz.pinned (.plain (OpenSpec.ofChange originGivesSpec)) originGivesCard

/-- THE SECOND FORM's CARD OF 'starlinglaw19.OriginRight'. -/
def originRightUptoCard : Claim7 := { stood := { row := originRightUptoRow, standIns := [], harness := (true, "d3fb2eb97dcf88c01aedaa8b928242685c57b4b946fb95a73f9cc7dea895f21d"), looks := false }, kinds := [], alts := [], laidByText := true, laidKinds := [.data], laidTests := true, laidLooks := .later }
def OriginRightUptoCardSaid : Prop := Claim7.holds Tryz.pinned (.plain (OpenSpec.upto originRightSpec)) originRightUptoCard

/-- THE SECOND FORM's CARD OF 'starlinglaw19.OriginNames'. -/
def originNamesUptoCard : Claim7 := { stood := { row := originNamesUptoRow, standIns := [], harness := (true, "d3fb2eb97dcf88c01aedaa8b928242685c57b4b946fb95a73f9cc7dea895f21d"), looks := false }, kinds := [], alts := [], laidByText := true, laidKinds := [.data], laidTests := true, laidLooks := .later }
def OriginNamesUptoCardSaid : Prop := Claim7.holds Tryz.pinned (.plain (OpenSpec.upto originNamesSpec)) originNamesUptoCard

/-- THE SECOND FORM's CARD OF 'starlinglaw19.OriginTells'. -/
def originTellsUptoCard : Claim7 := { stood := { row := originTellsUptoRow, standIns := [], harness := (true, "d3fb2eb97dcf88c01aedaa8b928242685c57b4b946fb95a73f9cc7dea895f21d"), looks := false }, kinds := [], alts := [], laidByText := true, laidKinds := [.data], laidTests := true, laidLooks := .later }
def OriginTellsUptoCardSaid : Prop := Claim7.holds Tryz.pinned (.plain (OpenSpec.upto originTellsSpec)) originTellsUptoCard

/-- THE SECOND FORM's CARD OF 'starlinglaw19.OriginSame'. -/
def originSameUptoCard : Claim7 := { stood := { row := originSameUptoRow, standIns := [], harness := (true, "d3fb2eb97dcf88c01aedaa8b928242685c57b4b946fb95a73f9cc7dea895f21d"), looks := false }, kinds := [], alts := [], laidByText := true, laidKinds := [.data], laidTests := true, laidLooks := .later }
def OriginSameUptoCardSaid : Prop := Claim7.holds Tryz.pinned (.plain (OpenSpec.upto originSameSpec)) originSameUptoCard

/-- THE SECOND FORM's CARD OF 'starlinglaw19.OriginScripts'. -/
def originScriptsUptoCard : Claim7 := { stood := { row := originScriptsUptoRow, standIns := [], harness := (true, "d3fb2eb97dcf88c01aedaa8b928242685c57b4b946fb95a73f9cc7dea895f21d"), looks := false }, kinds := [], alts := [], laidByText := true, laidKinds := [.data], laidTests := true, laidLooks := .later }
def OriginScriptsUptoCardSaid : Prop := Claim7.holds Tryz.pinned (.plain (OpenSpec.upto originScriptsSpec)) originScriptsUptoCard

/-- THE SECOND FORM's CARD OF 'starlinglaw19.OriginGives'. -/
def originGivesUptoCard : Claim7 := { stood := { row := originGivesUptoRow, standIns := [], harness := (true, "d3fb2eb97dcf88c01aedaa8b928242685c57b4b946fb95a73f9cc7dea895f21d"), looks := false }, kinds := [], alts := [], laidByText := true, laidKinds := [.data], laidTests := true, laidLooks := .later }
def OriginGivesUptoCardSaid : Prop := Claim7.holds Tryz.pinned (.plain (OpenSpec.upto originGivesSpec)) originGivesUptoCard
end Rows
end Go.Proofs.YtnohglkilpnjhaaGreatDoor
