/-
  DERIVED. GIVEN WITH THE SEED: THE CARDS: each row of YtnomekfemadpeaaDoorRows.lean that lists a variable, with what it lists TIED to the program's text (the seventh form; the later family's looks); each row that meets fmt, with fmt's text TOLD by the authors' own Lean function (tested against real Go, not proved from fmt's source: count such statements apart). THE CARD IS WHAT COUNTS. Prove the row's statement (the work); the ties are given (YtnomekfemadpeaaDoorTie.lean); close each card by the builder's one call (the guide's Derived/Test/ToyasCard.lean, 'card_holds'). Laid BY PROGRAM, IN A SANDBOX (cutbox-door.mjs). By AI agents, Wed Nov 11 2026. No macro, syntax, notation, axiom, sorry.
-/
import Derived.Test.YtnomekfemadpeaaDoorRows
import GoSem.ClaimSeven
namespace Go.Proofs.YtnomekfemadpeaaDoor
namespace Rows

/-- THE TIED CARD OF 'starlinglaw05.ManifestBlobs'. -/
def manifestBlobsCard : Claim7 := { stood := { row := manifestBlobsRow, standIns := [], harness := (true, "85b51f65cc92ddde09dd60945d9d41fe9f59472abf279987f7d874d4808c1ef8"), looks := false }, kinds := [], alts := [], laidByText := true, laidKinds := [.data], laidTests := true, laidLooks := .later }
def ManifestBlobsCardSaid : Prop := Claim7.holds Tryd.pinned (.plain (OpenSpec.ofChange manifestBlobsSpec)) manifestBlobsCard

/-- THE TIED CARD OF 'starlinglaw05.ManifestTurned'. -/
def manifestTurnedCard : Claim7 := { stood := { row := manifestTurnedRow, standIns := [], harness := (true, "85b51f65cc92ddde09dd60945d9d41fe9f59472abf279987f7d874d4808c1ef8"), looks := false }, kinds := [], alts := [], laidByText := true, laidKinds := [.data], laidTests := true, laidLooks := .later }
def ManifestTurnedCardSaid : Prop := Claim7.holds Tryd.pinned (.plain (OpenSpec.ofChange manifestTurnedSpec)) manifestTurnedCard

/-- THE TIED CARD OF 'starlinglaw05.ManifestAsks'. -/
def manifestAsksCard : Claim7 := { stood := { row := manifestAsksRow, standIns := [], harness := (true, "85b51f65cc92ddde09dd60945d9d41fe9f59472abf279987f7d874d4808c1ef8"), looks := false }, kinds := [], alts := [], laidByText := true, laidKinds := [.data], laidTests := true, laidLooks := .later }
def ManifestAsksCardSaid : Prop := Claim7.holds Tryd.pinned (.plain (OpenSpec.ofChange manifestAsksSpec)) manifestAsksCard

/-- THE TIED CARD OF 'starlinglaw05.ManifestPieces'. -/
def manifestPiecesCard : Claim7 := { stood := { row := manifestPiecesRow, standIns := [], harness := (true, "85b51f65cc92ddde09dd60945d9d41fe9f59472abf279987f7d874d4808c1ef8"), looks := false }, kinds := [], alts := [], laidByText := true, laidKinds := [.data], laidTests := true, laidLooks := .later }
def ManifestPiecesCardSaid : Prop := Claim7.holds Tryd.pinned (.plain (OpenSpec.ofChange manifestPiecesSpec)) manifestPiecesCard

/-- THE TIED CARD OF 'starlinglaw05.ManifestSound'. -/
def manifestSoundCard : Claim7 := { stood := { row := manifestSoundRow, standIns := [], harness := (true, "85b51f65cc92ddde09dd60945d9d41fe9f59472abf279987f7d874d4808c1ef8"), looks := false }, kinds := [], alts := [], laidByText := true, laidKinds := [.data], laidTests := true, laidLooks := .later }
def ManifestSoundCardSaid : Prop := Claim7.holds Tryd.pinned (.plain (OpenSpec.ofChange manifestSoundSpec)) manifestSoundCard

/-- THE TIED CARD OF 'starlinglaw05.ManifestImages'. -/
def manifestImagesCard : Claim7 := { stood := { row := manifestImagesRow, standIns := [], harness := (true, "85b51f65cc92ddde09dd60945d9d41fe9f59472abf279987f7d874d4808c1ef8"), looks := false }, kinds := [], alts := [], laidByText := true, laidKinds := [.data], laidTests := true, laidLooks := .later }
def ManifestImagesCardSaid : Prop := Claim7.holds Tryd.pinned (.plain (OpenSpec.ofChange manifestImagesSpec)) manifestImagesCard

/-- THE TIED CARD OF 'starlinglaw05.ManifestBack'. -/
def manifestBackCard : Claim7 := { stood := { row := manifestBackRow, standIns := [], harness := (true, "85b51f65cc92ddde09dd60945d9d41fe9f59472abf279987f7d874d4808c1ef8"), looks := false }, kinds := [], alts := [], laidByText := true, laidKinds := [.data], laidTests := true, laidLooks := .later }
def ManifestBackCardSaid : Prop := Claim7.holds Tryd.pinned (.plain (OpenSpec.ofChange manifestBackSpec)) manifestBackCard

/-- THE SECOND FORM's CARD OF 'starlinglaw05.ManifestBlobs'. -/
def manifestBlobsUptoCard : Claim7 := { stood := { row := manifestBlobsUptoRow, standIns := [], harness := (true, "85b51f65cc92ddde09dd60945d9d41fe9f59472abf279987f7d874d4808c1ef8"), looks := false }, kinds := [], alts := [], laidByText := true, laidKinds := [.data], laidTests := true, laidLooks := .later }
def ManifestBlobsUptoCardSaid : Prop := Claim7.holds Tryd.pinned (.plain (OpenSpec.upto manifestBlobsSpec)) manifestBlobsUptoCard

/-- THE SECOND FORM's CARD OF 'starlinglaw05.ManifestTurned'. -/
def manifestTurnedUptoCard : Claim7 := { stood := { row := manifestTurnedUptoRow, standIns := [], harness := (true, "85b51f65cc92ddde09dd60945d9d41fe9f59472abf279987f7d874d4808c1ef8"), looks := false }, kinds := [], alts := [], laidByText := true, laidKinds := [.data], laidTests := true, laidLooks := .later }
def ManifestTurnedUptoCardSaid : Prop := Claim7.holds Tryd.pinned (.plain (OpenSpec.upto manifestTurnedSpec)) manifestTurnedUptoCard

/-- THE SECOND FORM's CARD OF 'starlinglaw05.ManifestAsks'. -/
def manifestAsksUptoCard : Claim7 := { stood := { row := manifestAsksUptoRow, standIns := [], harness := (true, "85b51f65cc92ddde09dd60945d9d41fe9f59472abf279987f7d874d4808c1ef8"), looks := false }, kinds := [], alts := [], laidByText := true, laidKinds := [.data], laidTests := true, laidLooks := .later }
def ManifestAsksUptoCardSaid : Prop := Claim7.holds Tryd.pinned (.plain (OpenSpec.upto manifestAsksSpec)) manifestAsksUptoCard

/-- THE SECOND FORM's CARD OF 'starlinglaw05.ManifestPieces'. -/
def manifestPiecesUptoCard : Claim7 := { stood := { row := manifestPiecesUptoRow, standIns := [], harness := (true, "85b51f65cc92ddde09dd60945d9d41fe9f59472abf279987f7d874d4808c1ef8"), looks := false }, kinds := [], alts := [], laidByText := true, laidKinds := [.data], laidTests := true, laidLooks := .later }
def ManifestPiecesUptoCardSaid : Prop := Claim7.holds Tryd.pinned (.plain (OpenSpec.upto manifestPiecesSpec)) manifestPiecesUptoCard

/-- THE SECOND FORM's CARD OF 'starlinglaw05.ManifestSound'. -/
def manifestSoundUptoCard : Claim7 := { stood := { row := manifestSoundUptoRow, standIns := [], harness := (true, "85b51f65cc92ddde09dd60945d9d41fe9f59472abf279987f7d874d4808c1ef8"), looks := false }, kinds := [], alts := [], laidByText := true, laidKinds := [.data], laidTests := true, laidLooks := .later }
def ManifestSoundUptoCardSaid : Prop := Claim7.holds Tryd.pinned (.plain (OpenSpec.upto manifestSoundSpec)) manifestSoundUptoCard

/-- THE SECOND FORM's CARD OF 'starlinglaw05.ManifestImages'. -/
def manifestImagesUptoCard : Claim7 := { stood := { row := manifestImagesUptoRow, standIns := [], harness := (true, "85b51f65cc92ddde09dd60945d9d41fe9f59472abf279987f7d874d4808c1ef8"), looks := false }, kinds := [], alts := [], laidByText := true, laidKinds := [.data], laidTests := true, laidLooks := .later }
def ManifestImagesUptoCardSaid : Prop := Claim7.holds Tryd.pinned (.plain (OpenSpec.upto manifestImagesSpec)) manifestImagesUptoCard

/-- THE SECOND FORM's CARD OF 'starlinglaw05.ManifestBack'. -/
def manifestBackUptoCard : Claim7 := { stood := { row := manifestBackUptoRow, standIns := [], harness := (true, "85b51f65cc92ddde09dd60945d9d41fe9f59472abf279987f7d874d4808c1ef8"), looks := false }, kinds := [], alts := [], laidByText := true, laidKinds := [.data], laidTests := true, laidLooks := .later }
def ManifestBackUptoCardSaid : Prop := Claim7.holds Tryd.pinned (.plain (OpenSpec.upto manifestBackSpec)) manifestBackUptoCard
end Rows
end Go.Proofs.YtnomekfemadpeaaDoor
