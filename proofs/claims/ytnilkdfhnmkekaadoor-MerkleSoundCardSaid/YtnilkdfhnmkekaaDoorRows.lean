/-
  NARROWER THAN 'FOR EVERY INPUT', by the rows' own cells (each row's printed sentence says how): MerkleRoots: laid · MerkleHalves: laid · MerkleDepths: laid · MerkleLeaves: laid · MerkleProofs: laid · MerkleTurned: laid · MerkleChecks: laid · MerkleSound: laid · MerkleLeads: laid.
  DERIVED. THE GIVEN ROWS OF THIS SEAT. 9 by the template 'for every input the law returns true; each argument reads behind the call as it read before'; 0 by the template 'total and deterministic' (their statements: YtnilkdfhnmkekaaDoorTotals.lean).
  GIVEN WITH THE SEED: the statements are not yours to turn. If you find one false, say at which input.
  Laid BY PROGRAM, IN A SANDBOX (cutbox-rows.mjs): the forced cells as the released guide's own fill.sh prints them over the translation ab0c438b55e998b7… (all of the seat's roots in one cut). By AI agents, Wed Nov 11 2026. No macro, syntax, notation, axiom, sorry.
-/
import Derived.Test.YtnilkdfhnmkekaaDoorChecked
import GoSem.Claim
import GoSem.ClaimJoined
import GoSem.ClaimMapViews
import Derived.JoinedTies
import Derived.KernelRfl
namespace Go.Proofs.YtnilkdfhnmkekaaDoor
/- THE CELL 'sum', in the pinned program and in every row, IS THE sha256 OF THE DUMP (.gsa) THAT YtnilkdfhnmkekaaDoorProg.lean LOADS. Nothing in Lean hashes anything: it is a label: what it is worth is what the hold of that sum in a sandbox is worth. -/
noncomputable def Tryd.pinned : Pinned := { name := "ytnilkdfhnmkekaadoor", sum := "ab0c438b55e998b756d1a46860c6c79c1eb1b717240eca6d5dd1db7ded2e2af6", checked := Tryd.checked }
namespace Rows
def none {H : Type} : Left H := { results := [], args := [] }

/- WHAT THE LISTED PACKAGE-LEVEL VARIABLES READ AS WHEN THE CALL BEGINS. Each datum BY PROGRAM (the guide's laid-datum.mjs) off the statement by which the dump's own 'gosem.cut.vars' lays the variable. In a bare row this is a premise. The card (YtnilkdfhnmkekaaDoorCards.lean) ties it to the program's text. -/
def laid_starling_digest_constants {H : Type} : DataW H := .agg [.lit (.int .u32 1116352408), .lit (.int .u32 1899447441), .lit (.int .u32 3049323471), .lit (.int .u32 3921009573), .lit (.int .u32 961987163), .lit (.int .u32 1508970993), .lit (.int .u32 2453635748), .lit (.int .u32 2870763221), .lit (.int .u32 3624381080), .lit (.int .u32 310598401), .lit (.int .u32 607225278), .lit (.int .u32 1426881987), .lit (.int .u32 1925078388), .lit (.int .u32 2162078206), .lit (.int .u32 2614888103), .lit (.int .u32 3248222580), .lit (.int .u32 3835390401), .lit (.int .u32 4022224774), .lit (.int .u32 264347078), .lit (.int .u32 604807628), .lit (.int .u32 770255983), .lit (.int .u32 1249150122), .lit (.int .u32 1555081692), .lit (.int .u32 1996064986), .lit (.int .u32 2554220882), .lit (.int .u32 2821834349), .lit (.int .u32 2952996808), .lit (.int .u32 3210313671), .lit (.int .u32 3336571891), .lit (.int .u32 3584528711), .lit (.int .u32 113926993), .lit (.int .u32 338241895), .lit (.int .u32 666307205), .lit (.int .u32 773529912), .lit (.int .u32 1294757372), .lit (.int .u32 1396182291), .lit (.int .u32 1695183700), .lit (.int .u32 1986661051), .lit (.int .u32 2177026350), .lit (.int .u32 2456956037), .lit (.int .u32 2730485921), .lit (.int .u32 2820302411), .lit (.int .u32 3259730800), .lit (.int .u32 3345764771), .lit (.int .u32 3516065817), .lit (.int .u32 3600352804), .lit (.int .u32 4094571909), .lit (.int .u32 275423344), .lit (.int .u32 430227734), .lit (.int .u32 506948616), .lit (.int .u32 659060556), .lit (.int .u32 883997877), .lit (.int .u32 958139571), .lit (.int .u32 1322822218), .lit (.int .u32 1537002063), .lit (.int .u32 1747873779), .lit (.int .u32 1955562222), .lit (.int .u32 2024104815), .lit (.int .u32 2227730452), .lit (.int .u32 2361852424), .lit (.int .u32 2428436474), .lit (.int .u32 2756734187), .lit (.int .u32 3204031479), .lit (.int .u32 3329325298)]

/-- 'starlinglaw04.MerkleRoots': WHATEVER THE INPUT: true; the input reads as it did. -/
def merkleRootsSpec : ChangeSpec := { name := "merkleRoots", fn := fun _ => fun
  | [d] => { results := [.lit (.bool true)], args := [d] }
  | _ => none }
def merkleRootsRow : OpenClaim := { program := "ytnilkdfhnmkekaadoor", sum := "ab0c438b55e998b756d1a46860c6c79c1eb1b717240eca6d5dd1db7ded2e2af6", func := "starling/starlinglaw04.MerkleRoots", spec := "merkleRoots", unfollowed := true, recurses := true, named := ["starling/digest.constants"], apart := false, laid := [("starling/digest.constants", laid_starling_digest_constants)] }
def MerkleRootsSaid : Prop := merkleRootsRow.holds Tryd.pinned (OpenSpec.ofChange merkleRootsSpec)

/-- ITS FALSE NEIGHBOUR: 'it returns false'. Refute it at one input. -/
def merkleRootsWrong : ChangeSpec := { name := "merkleRoots", fn := fun _ => fun
  | [d] => { results := [.lit (.bool false)], args := [d] }
  | _ => none }
def MerkleRootsWrongFalsely : Prop := merkleRootsRow.holds Tryd.pinned (OpenSpec.ofChange merkleRootsWrong)

/-- 'starlinglaw04.MerkleHalves': WHATEVER THE INPUT: true; the input reads as it did. -/
def merkleHalvesSpec : ChangeSpec := { name := "merkleHalves", fn := fun _ => fun
  | [d] => { results := [.lit (.bool true)], args := [d] }
  | _ => none }
def merkleHalvesRow : OpenClaim := { program := "ytnilkdfhnmkekaadoor", sum := "ab0c438b55e998b756d1a46860c6c79c1eb1b717240eca6d5dd1db7ded2e2af6", func := "starling/starlinglaw04.MerkleHalves", spec := "merkleHalves", unfollowed := true, recurses := true, named := ["starling/digest.constants"], apart := false, laid := [("starling/digest.constants", laid_starling_digest_constants)] }
def MerkleHalvesSaid : Prop := merkleHalvesRow.holds Tryd.pinned (OpenSpec.ofChange merkleHalvesSpec)

/-- ITS FALSE NEIGHBOUR: 'it returns false'. Refute it at one input. -/
def merkleHalvesWrong : ChangeSpec := { name := "merkleHalves", fn := fun _ => fun
  | [d] => { results := [.lit (.bool false)], args := [d] }
  | _ => none }
def MerkleHalvesWrongFalsely : Prop := merkleHalvesRow.holds Tryd.pinned (OpenSpec.ofChange merkleHalvesWrong)

/-- 'starlinglaw04.MerkleDepths': WHATEVER THE INPUT: true; the input reads as it did. -/
def merkleDepthsSpec : ChangeSpec := { name := "merkleDepths", fn := fun _ => fun
  | [d1, d2] => { results := [.lit (.bool true)], args := [d1, d2] }
  | _ => none }
def merkleDepthsRow : OpenClaim := { program := "ytnilkdfhnmkekaadoor", sum := "ab0c438b55e998b756d1a46860c6c79c1eb1b717240eca6d5dd1db7ded2e2af6", func := "starling/starlinglaw04.MerkleDepths", spec := "merkleDepths", unfollowed := true, recurses := true, named := ["starling/digest.constants"], apart := false, laid := [("starling/digest.constants", laid_starling_digest_constants)] }
def MerkleDepthsSaid : Prop := merkleDepthsRow.holds Tryd.pinned (OpenSpec.ofChange merkleDepthsSpec)

/-- ITS FALSE NEIGHBOUR: 'it returns false'. Refute it at one input. -/
def merkleDepthsWrong : ChangeSpec := { name := "merkleDepths", fn := fun _ => fun
  | [d1, d2] => { results := [.lit (.bool false)], args := [d1, d2] }
  | _ => none }
def MerkleDepthsWrongFalsely : Prop := merkleDepthsRow.holds Tryd.pinned (OpenSpec.ofChange merkleDepthsWrong)

/-- 'starlinglaw04.MerkleLeaves': WHATEVER THE INPUT: true; the input reads as it did. -/
def merkleLeavesSpec : ChangeSpec := { name := "merkleLeaves", fn := fun _ => fun
  | [d1, d2, d3] => { results := [.lit (.bool true)], args := [d1, d2, d3] }
  | _ => none }
def merkleLeavesRow : OpenClaim := { program := "ytnilkdfhnmkekaadoor", sum := "ab0c438b55e998b756d1a46860c6c79c1eb1b717240eca6d5dd1db7ded2e2af6", func := "starling/starlinglaw04.MerkleLeaves", spec := "merkleLeaves", unfollowed := true, recurses := true, named := ["starling/digest.constants"], apart := false, laid := [("starling/digest.constants", laid_starling_digest_constants)] }
def MerkleLeavesSaid : Prop := merkleLeavesRow.holds Tryd.pinned (OpenSpec.ofChange merkleLeavesSpec)

/-- ITS FALSE NEIGHBOUR: 'it returns false'. Refute it at one input. -/
def merkleLeavesWrong : ChangeSpec := { name := "merkleLeaves", fn := fun _ => fun
  | [d1, d2, d3] => { results := [.lit (.bool false)], args := [d1, d2, d3] }
  | _ => none }
def MerkleLeavesWrongFalsely : Prop := merkleLeavesRow.holds Tryd.pinned (OpenSpec.ofChange merkleLeavesWrong)

/-- 'starlinglaw04.MerkleProofs': WHATEVER THE INPUT: true; the input reads as it did. -/
def merkleProofsSpec : ChangeSpec := { name := "merkleProofs", fn := fun _ => fun
  | [d1, d2, d3] => { results := [.lit (.bool true)], args := [d1, d2, d3] }
  | _ => none }
def merkleProofsRow : OpenClaim := { program := "ytnilkdfhnmkekaadoor", sum := "ab0c438b55e998b756d1a46860c6c79c1eb1b717240eca6d5dd1db7ded2e2af6", func := "starling/starlinglaw04.MerkleProofs", spec := "merkleProofs", unfollowed := true, recurses := true, named := ["starling/digest.constants"], apart := false, laid := [("starling/digest.constants", laid_starling_digest_constants)] }
def MerkleProofsSaid : Prop := merkleProofsRow.holds Tryd.pinned (OpenSpec.ofChange merkleProofsSpec)

/-- ITS FALSE NEIGHBOUR: 'it returns false'. Refute it at one input. -/
def merkleProofsWrong : ChangeSpec := { name := "merkleProofs", fn := fun _ => fun
  | [d1, d2, d3] => { results := [.lit (.bool false)], args := [d1, d2, d3] }
  | _ => none }
def MerkleProofsWrongFalsely : Prop := merkleProofsRow.holds Tryd.pinned (OpenSpec.ofChange merkleProofsWrong)

/-- 'starlinglaw04.MerkleTurned': WHATEVER THE INPUT: true; the input reads as it did. -/
def merkleTurnedSpec : ChangeSpec := { name := "merkleTurned", fn := fun _ => fun
  | [d1, d2, d3] => { results := [.lit (.bool true)], args := [d1, d2, d3] }
  | _ => none }
def merkleTurnedRow : OpenClaim := { program := "ytnilkdfhnmkekaadoor", sum := "ab0c438b55e998b756d1a46860c6c79c1eb1b717240eca6d5dd1db7ded2e2af6", func := "starling/starlinglaw04.MerkleTurned", spec := "merkleTurned", unfollowed := true, recurses := true, named := ["starling/digest.constants"], apart := false, laid := [("starling/digest.constants", laid_starling_digest_constants)] }
def MerkleTurnedSaid : Prop := merkleTurnedRow.holds Tryd.pinned (OpenSpec.ofChange merkleTurnedSpec)

/-- ITS FALSE NEIGHBOUR: 'it returns false'. Refute it at one input. -/
def merkleTurnedWrong : ChangeSpec := { name := "merkleTurned", fn := fun _ => fun
  | [d1, d2, d3] => { results := [.lit (.bool false)], args := [d1, d2, d3] }
  | _ => none }
def MerkleTurnedWrongFalsely : Prop := merkleTurnedRow.holds Tryd.pinned (OpenSpec.ofChange merkleTurnedWrong)

/-- 'starlinglaw04.MerkleChecks': WHATEVER THE INPUT: true; the input reads as it did. -/
def merkleChecksSpec : ChangeSpec := { name := "merkleChecks", fn := fun _ => fun
  | [d1, d2, d3] => { results := [.lit (.bool true)], args := [d1, d2, d3] }
  | _ => none }
def merkleChecksRow : OpenClaim := { program := "ytnilkdfhnmkekaadoor", sum := "ab0c438b55e998b756d1a46860c6c79c1eb1b717240eca6d5dd1db7ded2e2af6", func := "starling/starlinglaw04.MerkleChecks", spec := "merkleChecks", unfollowed := true, recurses := true, named := ["starling/digest.constants"], apart := false, laid := [("starling/digest.constants", laid_starling_digest_constants)] }
def MerkleChecksSaid : Prop := merkleChecksRow.holds Tryd.pinned (OpenSpec.ofChange merkleChecksSpec)

/-- ITS FALSE NEIGHBOUR: 'it returns false'. Refute it at one input. -/
def merkleChecksWrong : ChangeSpec := { name := "merkleChecks", fn := fun _ => fun
  | [d1, d2, d3] => { results := [.lit (.bool false)], args := [d1, d2, d3] }
  | _ => none }
def MerkleChecksWrongFalsely : Prop := merkleChecksRow.holds Tryd.pinned (OpenSpec.ofChange merkleChecksWrong)

/-- 'starlinglaw04.MerkleSound': WHATEVER THE INPUT: true; the input reads as it did. -/
def merkleSoundSpec : ChangeSpec := { name := "merkleSound", fn := fun _ => fun
  | [d1, d2, d3] => { results := [.lit (.bool true)], args := [d1, d2, d3] }
  | _ => none }
def merkleSoundRow : OpenClaim := { program := "ytnilkdfhnmkekaadoor", sum := "ab0c438b55e998b756d1a46860c6c79c1eb1b717240eca6d5dd1db7ded2e2af6", func := "starling/starlinglaw04.MerkleSound", spec := "merkleSound", unfollowed := true, recurses := true, named := ["starling/digest.constants"], apart := false, laid := [("starling/digest.constants", laid_starling_digest_constants)] }
def MerkleSoundSaid : Prop := merkleSoundRow.holds Tryd.pinned (OpenSpec.ofChange merkleSoundSpec)

/-- ITS FALSE NEIGHBOUR: 'it returns false'. Refute it at one input. -/
def merkleSoundWrong : ChangeSpec := { name := "merkleSound", fn := fun _ => fun
  | [d1, d2, d3] => { results := [.lit (.bool false)], args := [d1, d2, d3] }
  | _ => none }
def MerkleSoundWrongFalsely : Prop := merkleSoundRow.holds Tryd.pinned (OpenSpec.ofChange merkleSoundWrong)

/-- 'starlinglaw04.MerkleLeads': WHATEVER THE INPUT: true; the input reads as it did. -/
def merkleLeadsSpec : ChangeSpec := { name := "merkleLeads", fn := fun _ => fun
  | [d] => { results := [.lit (.bool true)], args := [d] }
  | _ => none }
def merkleLeadsRow : OpenClaim := { program := "ytnilkdfhnmkekaadoor", sum := "ab0c438b55e998b756d1a46860c6c79c1eb1b717240eca6d5dd1db7ded2e2af6", func := "starling/starlinglaw04.MerkleLeads", spec := "merkleLeads", unfollowed := true, recurses := true, named := ["starling/digest.constants"], apart := false, laid := [("starling/digest.constants", laid_starling_digest_constants)] }
def MerkleLeadsSaid : Prop := merkleLeadsRow.holds Tryd.pinned (OpenSpec.ofChange merkleLeadsSpec)

/-- ITS FALSE NEIGHBOUR: 'it returns false'. Refute it at one input. -/
def merkleLeadsWrong : ChangeSpec := { name := "merkleLeads", fn := fun _ => fun
  | [d] => { results := [.lit (.bool false)], args := [d] }
  | _ => none }
def MerkleLeadsWrongFalsely : Prop := merkleLeadsRow.holds Tryd.pinned (OpenSpec.ofChange merkleLeadsWrong)

/- THE SECOND FORM. 'bulk': how many values and letters a reading holds, each counted each time it is reached (what is shared counts as often as it is met; a slice's spare places count too). A statement '..UptoSaid' is the law's where the arguments, and the package variables that the reading takes, are together of bulk at most 1048576: NARROWER than '..Said'. Prove '..Said' where nothing that the law and all that it calls make is longer than what came in: it says more and counts as full. Else prove '..UptoSaid'. A law counts once. -/
mutual
def uptoBulk {H : Type} : DataW H → Nat
  | .lit (.string bytes) => bytes.length + 1
  | .lit _ => 1
  | .nil => 1
  | .ptr d => uptoBulk d + 1
  | .slice elems spare => uptoBulkAll elems + uptoBulkAll spare + 1
  | .agg parts => uptoBulkAll parts + 1
  | .iface _ d => uptoBulk d + 1
  | .map entries => uptoBulkEntries entries + 1
  | .held _ => 1
def uptoBulkAll {H : Type} : List (DataW H) → Nat
  | [] => 0
  | d :: r => uptoBulk d + uptoBulkAll r
def uptoBulkEntries {H : Type} : List (Lit × DataW H) → Nat
  | [] => 0
  | x :: r => uptoBulkEntry x + uptoBulkEntries r
def uptoBulkEntry {H : Type} : Lit × DataW H → Nat
  | (.string bytes, d) => bytes.length + uptoBulk d + 1
  | (_, d) => uptoBulk d + 1
 end
def uptoSmall : (H : Type) → List (DataW H) → Bool := fun _ ds => decide (uptoBulkAll ds ≤ 1048576)
def OpenSpec.upto (s : _root_.Go.ChangeSpec) : _root_.Go.OpenSpec := { _root_.Go.OpenSpec.ofChange s with cond := some uptoSmall }

/-- 'starlinglaw04.MerkleRoots', WHERE WHAT IT READS IS OF BULK AT MOST 1048576: true; the input reads as it did. -/
def merkleRootsUptoRow : OpenClaim := { program := "ytnilkdfhnmkekaadoor", sum := "ab0c438b55e998b756d1a46860c6c79c1eb1b717240eca6d5dd1db7ded2e2af6", func := "starling/starlinglaw04.MerkleRoots", spec := "merkleRoots", unfollowed := true, recurses := true, named := ["starling/digest.constants"], apart := false, laid := [("starling/digest.constants", laid_starling_digest_constants)], narrowed := true }
def MerkleRootsUptoSaid : Prop := merkleRootsUptoRow.holds Tryd.pinned (OpenSpec.upto merkleRootsSpec)

/-- 'starlinglaw04.MerkleHalves', WHERE WHAT IT READS IS OF BULK AT MOST 1048576: true; the input reads as it did. -/
def merkleHalvesUptoRow : OpenClaim := { program := "ytnilkdfhnmkekaadoor", sum := "ab0c438b55e998b756d1a46860c6c79c1eb1b717240eca6d5dd1db7ded2e2af6", func := "starling/starlinglaw04.MerkleHalves", spec := "merkleHalves", unfollowed := true, recurses := true, named := ["starling/digest.constants"], apart := false, laid := [("starling/digest.constants", laid_starling_digest_constants)], narrowed := true }
def MerkleHalvesUptoSaid : Prop := merkleHalvesUptoRow.holds Tryd.pinned (OpenSpec.upto merkleHalvesSpec)

/-- 'starlinglaw04.MerkleDepths', WHERE WHAT IT READS IS OF BULK AT MOST 1048576: true; the input reads as it did. -/
def merkleDepthsUptoRow : OpenClaim := { program := "ytnilkdfhnmkekaadoor", sum := "ab0c438b55e998b756d1a46860c6c79c1eb1b717240eca6d5dd1db7ded2e2af6", func := "starling/starlinglaw04.MerkleDepths", spec := "merkleDepths", unfollowed := true, recurses := true, named := ["starling/digest.constants"], apart := false, laid := [("starling/digest.constants", laid_starling_digest_constants)], narrowed := true }
def MerkleDepthsUptoSaid : Prop := merkleDepthsUptoRow.holds Tryd.pinned (OpenSpec.upto merkleDepthsSpec)

/-- 'starlinglaw04.MerkleLeaves', WHERE WHAT IT READS IS OF BULK AT MOST 1048576: true; the input reads as it did. -/
def merkleLeavesUptoRow : OpenClaim := { program := "ytnilkdfhnmkekaadoor", sum := "ab0c438b55e998b756d1a46860c6c79c1eb1b717240eca6d5dd1db7ded2e2af6", func := "starling/starlinglaw04.MerkleLeaves", spec := "merkleLeaves", unfollowed := true, recurses := true, named := ["starling/digest.constants"], apart := false, laid := [("starling/digest.constants", laid_starling_digest_constants)], narrowed := true }
def MerkleLeavesUptoSaid : Prop := merkleLeavesUptoRow.holds Tryd.pinned (OpenSpec.upto merkleLeavesSpec)

/-- 'starlinglaw04.MerkleProofs', WHERE WHAT IT READS IS OF BULK AT MOST 1048576: true; the input reads as it did. -/
def merkleProofsUptoRow : OpenClaim := { program := "ytnilkdfhnmkekaadoor", sum := "ab0c438b55e998b756d1a46860c6c79c1eb1b717240eca6d5dd1db7ded2e2af6", func := "starling/starlinglaw04.MerkleProofs", spec := "merkleProofs", unfollowed := true, recurses := true, named := ["starling/digest.constants"], apart := false, laid := [("starling/digest.constants", laid_starling_digest_constants)], narrowed := true }
def MerkleProofsUptoSaid : Prop := merkleProofsUptoRow.holds Tryd.pinned (OpenSpec.upto merkleProofsSpec)

/-- 'starlinglaw04.MerkleTurned', WHERE WHAT IT READS IS OF BULK AT MOST 1048576: true; the input reads as it did. -/
def merkleTurnedUptoRow : OpenClaim := { program := "ytnilkdfhnmkekaadoor", sum := "ab0c438b55e998b756d1a46860c6c79c1eb1b717240eca6d5dd1db7ded2e2af6", func := "starling/starlinglaw04.MerkleTurned", spec := "merkleTurned", unfollowed := true, recurses := true, named := ["starling/digest.constants"], apart := false, laid := [("starling/digest.constants", laid_starling_digest_constants)], narrowed := true }
def MerkleTurnedUptoSaid : Prop := merkleTurnedUptoRow.holds Tryd.pinned (OpenSpec.upto merkleTurnedSpec)

/-- 'starlinglaw04.MerkleChecks', WHERE WHAT IT READS IS OF BULK AT MOST 1048576: true; the input reads as it did. -/
def merkleChecksUptoRow : OpenClaim := { program := "ytnilkdfhnmkekaadoor", sum := "ab0c438b55e998b756d1a46860c6c79c1eb1b717240eca6d5dd1db7ded2e2af6", func := "starling/starlinglaw04.MerkleChecks", spec := "merkleChecks", unfollowed := true, recurses := true, named := ["starling/digest.constants"], apart := false, laid := [("starling/digest.constants", laid_starling_digest_constants)], narrowed := true }
def MerkleChecksUptoSaid : Prop := merkleChecksUptoRow.holds Tryd.pinned (OpenSpec.upto merkleChecksSpec)

/-- 'starlinglaw04.MerkleSound', WHERE WHAT IT READS IS OF BULK AT MOST 1048576: true; the input reads as it did. -/
def merkleSoundUptoRow : OpenClaim := { program := "ytnilkdfhnmkekaadoor", sum := "ab0c438b55e998b756d1a46860c6c79c1eb1b717240eca6d5dd1db7ded2e2af6", func := "starling/starlinglaw04.MerkleSound", spec := "merkleSound", unfollowed := true, recurses := true, named := ["starling/digest.constants"], apart := false, laid := [("starling/digest.constants", laid_starling_digest_constants)], narrowed := true }
def MerkleSoundUptoSaid : Prop := merkleSoundUptoRow.holds Tryd.pinned (OpenSpec.upto merkleSoundSpec)

/-- 'starlinglaw04.MerkleLeads', WHERE WHAT IT READS IS OF BULK AT MOST 1048576: true; the input reads as it did. -/
def merkleLeadsUptoRow : OpenClaim := { program := "ytnilkdfhnmkekaadoor", sum := "ab0c438b55e998b756d1a46860c6c79c1eb1b717240eca6d5dd1db7ded2e2af6", func := "starling/starlinglaw04.MerkleLeads", spec := "merkleLeads", unfollowed := true, recurses := true, named := ["starling/digest.constants"], apart := false, laid := [("starling/digest.constants", laid_starling_digest_constants)], narrowed := true }
def MerkleLeadsUptoSaid : Prop := merkleLeadsUptoRow.holds Tryd.pinned (OpenSpec.upto merkleLeadsSpec)

end Rows
end Go.Proofs.YtnilkdfhnmkekaaDoor
