/-
  DERIVED. GIVEN WITH THE SEED: THE CARDS: each row of YtakdbhehacbokaaDoorRows.lean that lists a variable, with what it lists TIED to the program's text (the seventh form; the later family's looks); each row that meets fmt, with fmt's text TOLD by the authors' own Lean function (tested against real Go, not proved from fmt's source: count such statements apart). THE CARD IS WHAT COUNTS. Prove the row's statement (the work); the ties are given (YtakdbhehacbokaaDoorTie.lean); close each card by the builder's one call (the guide's Derived/Test/ToyasCard.lean, 'card_holds'). Laid BY PROGRAM, IN A SANDBOX (cutbox-door.mjs). By AI agents, Wed Nov 11 2026. No macro, syntax, notation, axiom, sorry.
-/
import Derived.Test.YtakdbhehacbokaaDoorRows
import GoSem.ClaimSeven
namespace Go.Proofs.YtakdbhehacbokaaDoor
namespace Rows

/-- THE TIED CARD OF 'starlinglaw01.DigestSums'. -/
def digestSumsCard : Claim7 := { stood := { row := digestSumsRow, standIns := [], harness := (true, "5635abdf65f0e2355c2420b3a7e6883631072d38bad6929fe9c86e8ab43103eb"), looks := false }, kinds := [], alts := [], laidByText := true, laidKinds := [.data], laidTests := true, laidLooks := .later }
def DigestSumsCardSaid : Prop := Claim7.holds Tryd.pinned (.plain (OpenSpec.ofChange digestSumsSpec)) digestSumsCard

/-- THE TIED CARD OF 'starlinglaw01.DigestOrder'. -/
def digestOrderCard : Claim7 := { stood := { row := digestOrderRow, standIns := [], harness := (true, "5635abdf65f0e2355c2420b3a7e6883631072d38bad6929fe9c86e8ab43103eb"), looks := false }, kinds := [], alts := [], laidByText := true, laidKinds := [.data], laidTests := true, laidLooks := .later }
def DigestOrderCardSaid : Prop := Claim7.holds Tryd.pinned (.plain (OpenSpec.ofChange digestOrderSpec)) digestOrderCard

/-- THE TIED CARD OF 'starlinglaw01.DigestTags'. -/
def digestTagsCard : Claim7 := { stood := { row := digestTagsRow, standIns := [], harness := (true, "5635abdf65f0e2355c2420b3a7e6883631072d38bad6929fe9c86e8ab43103eb"), looks := false }, kinds := [], alts := [], laidByText := true, laidKinds := [.data], laidTests := true, laidLooks := .later }
def DigestTagsCardSaid : Prop := Claim7.holds Tryd.pinned (.plain (OpenSpec.ofChange digestTagsSpec)) digestTagsCard

/-- THE TIED CARD OF 'starlinglaw01.DigestApart'. -/
def digestApartCard : Claim7 := { stood := { row := digestApartRow, standIns := [], harness := (true, "5635abdf65f0e2355c2420b3a7e6883631072d38bad6929fe9c86e8ab43103eb"), looks := false }, kinds := [], alts := [], laidByText := true, laidKinds := [.data], laidTests := true, laidLooks := .later }
def DigestApartCardSaid : Prop := Claim7.holds Tryd.pinned (.plain (OpenSpec.ofChange digestApartSpec)) digestApartCard

/-- THE TIED CARD OF 'starlinglaw01.DigestOwn'. -/
def digestOwnCard : Claim7 := { stood := { row := digestOwnRow, standIns := [], harness := (true, "5635abdf65f0e2355c2420b3a7e6883631072d38bad6929fe9c86e8ab43103eb"), looks := false }, kinds := [], alts := [], laidByText := true, laidKinds := [.data], laidTests := true, laidLooks := .later }
def DigestOwnCardSaid : Prop := Claim7.holds Tryd.pinned (.plain (OpenSpec.ofChange digestOwnSpec)) digestOwnCard

/-- THE TIED CARD OF 'starlinglaw01.DigestThree'. -/
def digestThreeCard : Claim7 := { stood := { row := digestThreeRow, standIns := [], harness := (true, "5635abdf65f0e2355c2420b3a7e6883631072d38bad6929fe9c86e8ab43103eb"), looks := false }, kinds := [], alts := [], laidByText := true, laidKinds := [.data], laidTests := true, laidLooks := .later }
def DigestThreeCardSaid : Prop := Claim7.holds Tryd.pinned (.plain (OpenSpec.ofChange digestThreeSpec)) digestThreeCard

/-- THE TIED CARD OF 'starlinglaw01.DigestCompares'. -/
def digestComparesCard : Claim7 := { stood := { row := digestComparesRow, standIns := [], harness := (true, "5635abdf65f0e2355c2420b3a7e6883631072d38bad6929fe9c86e8ab43103eb"), looks := false }, kinds := [], alts := [], laidByText := true, laidKinds := [.data], laidTests := true, laidLooks := .later }
def DigestComparesCardSaid : Prop := Claim7.holds Tryd.pinned (.plain (OpenSpec.ofChange digestComparesSpec)) digestComparesCard

/-- THE TIED CARD OF 'starlinglaw01.DigestTexts'. -/
def digestTextsCard : Claim7 := { stood := { row := digestTextsRow, standIns := [], harness := (true, "5635abdf65f0e2355c2420b3a7e6883631072d38bad6929fe9c86e8ab43103eb"), looks := false }, kinds := [], alts := [], laidByText := true, laidKinds := [.data], laidTests := true, laidLooks := .later }
def DigestTextsCardSaid : Prop := Claim7.holds Tryd.pinned (.plain (OpenSpec.ofChange digestTextsSpec)) digestTextsCard

/-- THE TIED CARD OF 'starlinglaw01.DigestBack'. -/
def digestBackCard : Claim7 := { stood := { row := digestBackRow, standIns := [], harness := (true, "5635abdf65f0e2355c2420b3a7e6883631072d38bad6929fe9c86e8ab43103eb"), looks := false }, kinds := [], alts := [], laidByText := true, laidKinds := [.data], laidTests := true, laidLooks := .later }
def DigestBackCardSaid : Prop := Claim7.holds Tryd.pinned (.plain (OpenSpec.ofChange digestBackSpec)) digestBackCard

/-- THE SECOND FORM's CARD OF 'starlinglaw01.DigestSums'. -/
def digestSumsUptoCard : Claim7 := { stood := { row := digestSumsUptoRow, standIns := [], harness := (true, "5635abdf65f0e2355c2420b3a7e6883631072d38bad6929fe9c86e8ab43103eb"), looks := false }, kinds := [], alts := [], laidByText := true, laidKinds := [.data], laidTests := true, laidLooks := .later }
def DigestSumsUptoCardSaid : Prop := Claim7.holds Tryd.pinned (.plain (OpenSpec.upto digestSumsSpec)) digestSumsUptoCard

/-- THE SECOND FORM's CARD OF 'starlinglaw01.DigestOrder'. -/
def digestOrderUptoCard : Claim7 := { stood := { row := digestOrderUptoRow, standIns := [], harness := (true, "5635abdf65f0e2355c2420b3a7e6883631072d38bad6929fe9c86e8ab43103eb"), looks := false }, kinds := [], alts := [], laidByText := true, laidKinds := [.data], laidTests := true, laidLooks := .later }
def DigestOrderUptoCardSaid : Prop := Claim7.holds Tryd.pinned (.plain (OpenSpec.upto digestOrderSpec)) digestOrderUptoCard

/-- THE SECOND FORM's CARD OF 'starlinglaw01.DigestTags'. -/
def digestTagsUptoCard : Claim7 := { stood := { row := digestTagsUptoRow, standIns := [], harness := (true, "5635abdf65f0e2355c2420b3a7e6883631072d38bad6929fe9c86e8ab43103eb"), looks := false }, kinds := [], alts := [], laidByText := true, laidKinds := [.data], laidTests := true, laidLooks := .later }
def DigestTagsUptoCardSaid : Prop := Claim7.holds Tryd.pinned (.plain (OpenSpec.upto digestTagsSpec)) digestTagsUptoCard

/-- THE SECOND FORM's CARD OF 'starlinglaw01.DigestApart'. -/
def digestApartUptoCard : Claim7 := { stood := { row := digestApartUptoRow, standIns := [], harness := (true, "5635abdf65f0e2355c2420b3a7e6883631072d38bad6929fe9c86e8ab43103eb"), looks := false }, kinds := [], alts := [], laidByText := true, laidKinds := [.data], laidTests := true, laidLooks := .later }
def DigestApartUptoCardSaid : Prop := Claim7.holds Tryd.pinned (.plain (OpenSpec.upto digestApartSpec)) digestApartUptoCard

/-- THE SECOND FORM's CARD OF 'starlinglaw01.DigestOwn'. -/
def digestOwnUptoCard : Claim7 := { stood := { row := digestOwnUptoRow, standIns := [], harness := (true, "5635abdf65f0e2355c2420b3a7e6883631072d38bad6929fe9c86e8ab43103eb"), looks := false }, kinds := [], alts := [], laidByText := true, laidKinds := [.data], laidTests := true, laidLooks := .later }
def DigestOwnUptoCardSaid : Prop := Claim7.holds Tryd.pinned (.plain (OpenSpec.upto digestOwnSpec)) digestOwnUptoCard

/-- THE SECOND FORM's CARD OF 'starlinglaw01.DigestThree'. -/
def digestThreeUptoCard : Claim7 := { stood := { row := digestThreeUptoRow, standIns := [], harness := (true, "5635abdf65f0e2355c2420b3a7e6883631072d38bad6929fe9c86e8ab43103eb"), looks := false }, kinds := [], alts := [], laidByText := true, laidKinds := [.data], laidTests := true, laidLooks := .later }
def DigestThreeUptoCardSaid : Prop := Claim7.holds Tryd.pinned (.plain (OpenSpec.upto digestThreeSpec)) digestThreeUptoCard

/-- THE SECOND FORM's CARD OF 'starlinglaw01.DigestCompares'. -/
def digestComparesUptoCard : Claim7 := { stood := { row := digestComparesUptoRow, standIns := [], harness := (true, "5635abdf65f0e2355c2420b3a7e6883631072d38bad6929fe9c86e8ab43103eb"), looks := false }, kinds := [], alts := [], laidByText := true, laidKinds := [.data], laidTests := true, laidLooks := .later }
def DigestComparesUptoCardSaid : Prop := Claim7.holds Tryd.pinned (.plain (OpenSpec.upto digestComparesSpec)) digestComparesUptoCard

/-- THE SECOND FORM's CARD OF 'starlinglaw01.DigestTexts'. -/
def digestTextsUptoCard : Claim7 := { stood := { row := digestTextsUptoRow, standIns := [], harness := (true, "5635abdf65f0e2355c2420b3a7e6883631072d38bad6929fe9c86e8ab43103eb"), looks := false }, kinds := [], alts := [], laidByText := true, laidKinds := [.data], laidTests := true, laidLooks := .later }
def DigestTextsUptoCardSaid : Prop := Claim7.holds Tryd.pinned (.plain (OpenSpec.upto digestTextsSpec)) digestTextsUptoCard

/-- THE SECOND FORM's CARD OF 'starlinglaw01.DigestBack'. -/
def digestBackUptoCard : Claim7 := { stood := { row := digestBackUptoRow, standIns := [], harness := (true, "5635abdf65f0e2355c2420b3a7e6883631072d38bad6929fe9c86e8ab43103eb"), looks := false }, kinds := [], alts := [], laidByText := true, laidKinds := [.data], laidTests := true, laidLooks := .later }
def DigestBackUptoCardSaid : Prop := Claim7.holds Tryd.pinned (.plain (OpenSpec.upto digestBackSpec)) digestBackUptoCard
end Rows
end Go.Proofs.YtakdbhehacbokaaDoor
