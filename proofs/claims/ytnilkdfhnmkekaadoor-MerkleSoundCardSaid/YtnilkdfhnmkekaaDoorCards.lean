/-
  DERIVED. GIVEN WITH THE SEED: THE CARDS: each row of YtnilkdfhnmkekaaDoorRows.lean that lists a variable, with what it lists TIED to the program's text (the seventh form; the later family's looks); each row that meets fmt, with fmt's text TOLD by the authors' own Lean function (tested against real Go, not proved from fmt's source: count such statements apart). THE CARD IS WHAT COUNTS. Prove the row's statement (the work); the ties are given (YtnilkdfhnmkekaaDoorTie.lean); close each card by the builder's one call (the guide's Derived/Test/ToyasCard.lean, 'card_holds'). Laid BY PROGRAM, IN A SANDBOX (cutbox-door.mjs). By AI agents, Wed Nov 11 2026. No macro, syntax, notation, axiom, sorry.
-/
import Derived.Test.YtnilkdfhnmkekaaDoorRows
import GoSem.ClaimSeven
namespace Go.Proofs.YtnilkdfhnmkekaaDoor
namespace Rows

/-- THE TIED CARD OF 'starlinglaw04.MerkleRoots'. -/
def merkleRootsCard : Claim7 := { stood := { row := merkleRootsRow, standIns := [], harness := (true, "72356fcfe0a6225db06522b5a0982240f7ae68fea2e8252fc0cf8f2e0f9f0ceb"), looks := false }, kinds := [], alts := [], laidByText := true, laidKinds := [.data], laidTests := true, laidLooks := .later }
def MerkleRootsCardSaid : Prop := Claim7.holds Tryd.pinned (.plain (OpenSpec.ofChange merkleRootsSpec)) merkleRootsCard

/-- THE TIED CARD OF 'starlinglaw04.MerkleHalves'. -/
def merkleHalvesCard : Claim7 := { stood := { row := merkleHalvesRow, standIns := [], harness := (true, "72356fcfe0a6225db06522b5a0982240f7ae68fea2e8252fc0cf8f2e0f9f0ceb"), looks := false }, kinds := [], alts := [], laidByText := true, laidKinds := [.data], laidTests := true, laidLooks := .later }
def MerkleHalvesCardSaid : Prop := Claim7.holds Tryd.pinned (.plain (OpenSpec.ofChange merkleHalvesSpec)) merkleHalvesCard

/-- THE TIED CARD OF 'starlinglaw04.MerkleDepths'. -/
def merkleDepthsCard : Claim7 := { stood := { row := merkleDepthsRow, standIns := [], harness := (true, "72356fcfe0a6225db06522b5a0982240f7ae68fea2e8252fc0cf8f2e0f9f0ceb"), looks := false }, kinds := [], alts := [], laidByText := true, laidKinds := [.data], laidTests := true, laidLooks := .later }
def MerkleDepthsCardSaid : Prop := Claim7.holds Tryd.pinned (.plain (OpenSpec.ofChange merkleDepthsSpec)) merkleDepthsCard

/-- THE TIED CARD OF 'starlinglaw04.MerkleLeaves'. -/
def merkleLeavesCard : Claim7 := { stood := { row := merkleLeavesRow, standIns := [], harness := (true, "72356fcfe0a6225db06522b5a0982240f7ae68fea2e8252fc0cf8f2e0f9f0ceb"), looks := false }, kinds := [], alts := [], laidByText := true, laidKinds := [.data], laidTests := true, laidLooks := .later }
def MerkleLeavesCardSaid : Prop := Claim7.holds Tryd.pinned (.plain (OpenSpec.ofChange merkleLeavesSpec)) merkleLeavesCard

/-- THE TIED CARD OF 'starlinglaw04.MerkleProofs'. -/
def merkleProofsCard : Claim7 := { stood := { row := merkleProofsRow, standIns := [], harness := (true, "72356fcfe0a6225db06522b5a0982240f7ae68fea2e8252fc0cf8f2e0f9f0ceb"), looks := false }, kinds := [], alts := [], laidByText := true, laidKinds := [.data], laidTests := true, laidLooks := .later }
def MerkleProofsCardSaid : Prop := Claim7.holds Tryd.pinned (.plain (OpenSpec.ofChange merkleProofsSpec)) merkleProofsCard

/-- THE TIED CARD OF 'starlinglaw04.MerkleTurned'. -/
def merkleTurnedCard : Claim7 := { stood := { row := merkleTurnedRow, standIns := [], harness := (true, "72356fcfe0a6225db06522b5a0982240f7ae68fea2e8252fc0cf8f2e0f9f0ceb"), looks := false }, kinds := [], alts := [], laidByText := true, laidKinds := [.data], laidTests := true, laidLooks := .later }
def MerkleTurnedCardSaid : Prop := Claim7.holds Tryd.pinned (.plain (OpenSpec.ofChange merkleTurnedSpec)) merkleTurnedCard

/-- THE TIED CARD OF 'starlinglaw04.MerkleChecks'. -/
def merkleChecksCard : Claim7 := { stood := { row := merkleChecksRow, standIns := [], harness := (true, "72356fcfe0a6225db06522b5a0982240f7ae68fea2e8252fc0cf8f2e0f9f0ceb"), looks := false }, kinds := [], alts := [], laidByText := true, laidKinds := [.data], laidTests := true, laidLooks := .later }
def MerkleChecksCardSaid : Prop := Claim7.holds Tryd.pinned (.plain (OpenSpec.ofChange merkleChecksSpec)) merkleChecksCard

/-- THE TIED CARD OF 'starlinglaw04.MerkleSound'. -/
def merkleSoundCard : Claim7 := { stood := { row := merkleSoundRow, standIns := [], harness := (true, "72356fcfe0a6225db06522b5a0982240f7ae68fea2e8252fc0cf8f2e0f9f0ceb"), looks := false }, kinds := [], alts := [], laidByText := true, laidKinds := [.data], laidTests := true, laidLooks := .later }
def MerkleSoundCardSaid : Prop := Claim7.holds Tryd.pinned (.plain (OpenSpec.ofChange merkleSoundSpec)) merkleSoundCard

/-- THE TIED CARD OF 'starlinglaw04.MerkleLeads'. -/
def merkleLeadsCard : Claim7 := { stood := { row := merkleLeadsRow, standIns := [], harness := (true, "72356fcfe0a6225db06522b5a0982240f7ae68fea2e8252fc0cf8f2e0f9f0ceb"), looks := false }, kinds := [], alts := [], laidByText := true, laidKinds := [.data], laidTests := true, laidLooks := .later }
def MerkleLeadsCardSaid : Prop := Claim7.holds Tryd.pinned (.plain (OpenSpec.ofChange merkleLeadsSpec)) merkleLeadsCard

/-- THE SECOND FORM's CARD OF 'starlinglaw04.MerkleRoots'. -/
def merkleRootsUptoCard : Claim7 := { stood := { row := merkleRootsUptoRow, standIns := [], harness := (true, "72356fcfe0a6225db06522b5a0982240f7ae68fea2e8252fc0cf8f2e0f9f0ceb"), looks := false }, kinds := [], alts := [], laidByText := true, laidKinds := [.data], laidTests := true, laidLooks := .later }
def MerkleRootsUptoCardSaid : Prop := Claim7.holds Tryd.pinned (.plain (OpenSpec.upto merkleRootsSpec)) merkleRootsUptoCard

/-- THE SECOND FORM's CARD OF 'starlinglaw04.MerkleHalves'. -/
def merkleHalvesUptoCard : Claim7 := { stood := { row := merkleHalvesUptoRow, standIns := [], harness := (true, "72356fcfe0a6225db06522b5a0982240f7ae68fea2e8252fc0cf8f2e0f9f0ceb"), looks := false }, kinds := [], alts := [], laidByText := true, laidKinds := [.data], laidTests := true, laidLooks := .later }
def MerkleHalvesUptoCardSaid : Prop := Claim7.holds Tryd.pinned (.plain (OpenSpec.upto merkleHalvesSpec)) merkleHalvesUptoCard

/-- THE SECOND FORM's CARD OF 'starlinglaw04.MerkleDepths'. -/
def merkleDepthsUptoCard : Claim7 := { stood := { row := merkleDepthsUptoRow, standIns := [], harness := (true, "72356fcfe0a6225db06522b5a0982240f7ae68fea2e8252fc0cf8f2e0f9f0ceb"), looks := false }, kinds := [], alts := [], laidByText := true, laidKinds := [.data], laidTests := true, laidLooks := .later }
def MerkleDepthsUptoCardSaid : Prop := Claim7.holds Tryd.pinned (.plain (OpenSpec.upto merkleDepthsSpec)) merkleDepthsUptoCard

/-- THE SECOND FORM's CARD OF 'starlinglaw04.MerkleLeaves'. -/
def merkleLeavesUptoCard : Claim7 := { stood := { row := merkleLeavesUptoRow, standIns := [], harness := (true, "72356fcfe0a6225db06522b5a0982240f7ae68fea2e8252fc0cf8f2e0f9f0ceb"), looks := false }, kinds := [], alts := [], laidByText := true, laidKinds := [.data], laidTests := true, laidLooks := .later }
def MerkleLeavesUptoCardSaid : Prop := Claim7.holds Tryd.pinned (.plain (OpenSpec.upto merkleLeavesSpec)) merkleLeavesUptoCard

/-- THE SECOND FORM's CARD OF 'starlinglaw04.MerkleProofs'. -/
def merkleProofsUptoCard : Claim7 := { stood := { row := merkleProofsUptoRow, standIns := [], harness := (true, "72356fcfe0a6225db06522b5a0982240f7ae68fea2e8252fc0cf8f2e0f9f0ceb"), looks := false }, kinds := [], alts := [], laidByText := true, laidKinds := [.data], laidTests := true, laidLooks := .later }
def MerkleProofsUptoCardSaid : Prop := Claim7.holds Tryd.pinned (.plain (OpenSpec.upto merkleProofsSpec)) merkleProofsUptoCard

/-- THE SECOND FORM's CARD OF 'starlinglaw04.MerkleTurned'. -/
def merkleTurnedUptoCard : Claim7 := { stood := { row := merkleTurnedUptoRow, standIns := [], harness := (true, "72356fcfe0a6225db06522b5a0982240f7ae68fea2e8252fc0cf8f2e0f9f0ceb"), looks := false }, kinds := [], alts := [], laidByText := true, laidKinds := [.data], laidTests := true, laidLooks := .later }
def MerkleTurnedUptoCardSaid : Prop := Claim7.holds Tryd.pinned (.plain (OpenSpec.upto merkleTurnedSpec)) merkleTurnedUptoCard

/-- THE SECOND FORM's CARD OF 'starlinglaw04.MerkleChecks'. -/
def merkleChecksUptoCard : Claim7 := { stood := { row := merkleChecksUptoRow, standIns := [], harness := (true, "72356fcfe0a6225db06522b5a0982240f7ae68fea2e8252fc0cf8f2e0f9f0ceb"), looks := false }, kinds := [], alts := [], laidByText := true, laidKinds := [.data], laidTests := true, laidLooks := .later }
def MerkleChecksUptoCardSaid : Prop := Claim7.holds Tryd.pinned (.plain (OpenSpec.upto merkleChecksSpec)) merkleChecksUptoCard

/-- THE SECOND FORM's CARD OF 'starlinglaw04.MerkleSound'. -/
def merkleSoundUptoCard : Claim7 := { stood := { row := merkleSoundUptoRow, standIns := [], harness := (true, "72356fcfe0a6225db06522b5a0982240f7ae68fea2e8252fc0cf8f2e0f9f0ceb"), looks := false }, kinds := [], alts := [], laidByText := true, laidKinds := [.data], laidTests := true, laidLooks := .later }
def MerkleSoundUptoCardSaid : Prop := Claim7.holds Tryd.pinned (.plain (OpenSpec.upto merkleSoundSpec)) merkleSoundUptoCard

/-- THE SECOND FORM's CARD OF 'starlinglaw04.MerkleLeads'. -/
def merkleLeadsUptoCard : Claim7 := { stood := { row := merkleLeadsUptoRow, standIns := [], harness := (true, "72356fcfe0a6225db06522b5a0982240f7ae68fea2e8252fc0cf8f2e0f9f0ceb"), looks := false }, kinds := [], alts := [], laidByText := true, laidKinds := [.data], laidTests := true, laidLooks := .later }
def MerkleLeadsUptoCardSaid : Prop := Claim7.holds Tryd.pinned (.plain (OpenSpec.upto merkleLeadsSpec)) merkleLeadsUptoCard
end Rows
end Go.Proofs.YtnilkdfhnmkekaaDoor
