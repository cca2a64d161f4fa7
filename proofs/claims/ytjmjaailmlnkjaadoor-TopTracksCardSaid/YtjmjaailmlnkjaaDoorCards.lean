/-
  DERIVED. GIVEN WITH THE SEED: THE CARDS: each row of YtjmjaailmlnkjaaDoorRows.lean that lists a variable, with what it lists TIED to the program's text (the seventh form; the later family's looks); each row that meets fmt, with fmt's text TOLD by the authors' own Lean function (tested against real Go, not proved from fmt's source: count such statements apart). THE CARD IS WHAT COUNTS. Prove the row's statement (the work); the ties are given (YtjmjaailmlnkjaaDoorTie.lean); close each card by the builder's one call (the guide's Derived/Test/ToyasCard.lean, 'card_holds'). Laid BY PROGRAM, IN A SANDBOX (cutbox-door.mjs). By AI agents, Wed Nov 11 2026. No macro, syntax, notation, axiom, sorry.
-/
import Derived.Test.YtjmjaailmlnkjaaDoorRows
import GoSem.ClaimSeven
namespace Go.Proofs.YtjmjaailmlnkjaaDoor
namespace Rows

/-- THE TIED CARD OF 'starlingtop.TopTracks'. -/
def topTracksCard : Claim7 := { stood := { row := topTracksRow, standIns := [], harness := (true, "7cd1b2d2e8303c9dd52abc7b5cebd9dda9af10937b5ae1dcfeea4f9b8673bc86"), looks := false }, kinds := [], alts := [], laidByText := true, laidKinds := [.data], laidTests := true, laidLooks := .later }
def TopTracksCardSaid : Prop := Claim7.holds Tryd.pinned (.plain (OpenSpec.ofChange topTracksSpec)) topTracksCard

/-- THE SECOND FORM's CARD OF 'starlingtop.TopTracks'. -/
def topTracksUptoCard : Claim7 := { stood := { row := topTracksUptoRow, standIns := [], harness := (true, "7cd1b2d2e8303c9dd52abc7b5cebd9dda9af10937b5ae1dcfeea4f9b8673bc86"), looks := false }, kinds := [], alts := [], laidByText := true, laidKinds := [.data], laidTests := true, laidLooks := .later }
def TopTracksUptoCardSaid : Prop := Claim7.holds Tryd.pinned (.plain (OpenSpec.upto topTracksSpec)) topTracksUptoCard
end Rows
end Go.Proofs.YtjmjaailmlnkjaaDoor
