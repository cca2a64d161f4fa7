/-
  No cell of these rows narrows 'for every input' (looked for: loops, veiled, ifaces, maps, wideKeys, modest, calm, conditions, laid).
  DERIVED. THE GIVEN ROWS OF THIS SEAT. 6 by the template 'for every input the law returns true; each argument reads behind the call as it read before'; 0 by the template 'total and deterministic' (their statements: YtnohglkilpnjhaaTotals.lean).
  GIVEN WITH THE SEED: the statements are not yours to turn. If you find one false, say at which input.
  Laid BY PROGRAM, IN A SANDBOX (cutbox-rows.mjs): the forced cells as the released guide's own fill.sh prints them over the translation 8d252b9e12f25f0b… (all of the seat's roots in one cut). By AI agents, Wed Nov 11 2026. No macro, syntax, notation, axiom, sorry.
-/
import Derived.Test.YtnohglkilpnjhaaChecked
import GoSem.Claim
import GoSem.ClaimJoined
import GoSem.ClaimMapViews
import Derived.JoinedTies
import Derived.KernelRfl
namespace Go.Proofs.Ytnohglkilpnjhaa
/- THE CELL 'sum', in the pinned program and in every row, IS THE sha256 OF THE DUMP (.gsa) THAT YtnohglkilpnjhaaProg.lean LOADS. Nothing in Lean hashes anything: it is a label: what it is worth is what the hold of that sum in a sandbox is worth. -/
noncomputable def Try.pinned : Pinned := { name := "ytnohglkilpnjhaa", sum := "8d252b9e12f25f0beb30dd04b3624b08d50b508e02cb69289abc8e2b6a3e0514", checked := Try.checked }
namespace Rows
def none {H : Type} : Left H := { results := [], args := [] }

/-- 'starlinglaw11.TrackerFirst': WHATEVER THE INPUT: true; the input reads as it did. -/
def trackerFirstSpec : ChangeSpec := { name := "trackerFirst", fn := fun _ => fun
  | [d1, d2] => { results := [.lit (.bool true)], args := [d1, d2] }
  | _ => none }
def trackerFirstRow : OpenClaim := { program := "ytnohglkilpnjhaa", sum := "8d252b9e12f25f0beb30dd04b3624b08d50b508e02cb69289abc8e2b6a3e0514", func := "starling/starlinglaw11.TrackerFirst", spec := "trackerFirst", inPlace := ["internal/bytealg.Compare"], unfollowed := true, recurses := true, plainKeys := false, apart := false }
def TrackerFirstSaid : Prop := trackerFirstRow.holds Try.pinned (OpenSpec.ofChange trackerFirstSpec)

/-- ITS FALSE NEIGHBOUR: 'it returns false'. Refute it at one input. -/
def trackerFirstWrong : ChangeSpec := { name := "trackerFirst", fn := fun _ => fun
  | [d1, d2] => { results := [.lit (.bool false)], args := [d1, d2] }
  | _ => none }
def TrackerFirstWrongFalsely : Prop := trackerFirstRow.holds Try.pinned (OpenSpec.ofChange trackerFirstWrong)

/-- 'starlinglaw11.TrackerRoom': WHATEVER THE INPUT: true; the input reads as it did. -/
def trackerRoomSpec : ChangeSpec := { name := "trackerRoom", fn := fun _ => fun
  | [d1, d2] => { results := [.lit (.bool true)], args := [d1, d2] }
  | _ => none }
def trackerRoomRow : OpenClaim := { program := "ytnohglkilpnjhaa", sum := "8d252b9e12f25f0beb30dd04b3624b08d50b508e02cb69289abc8e2b6a3e0514", func := "starling/starlinglaw11.TrackerRoom", spec := "trackerRoom", inPlace := ["internal/bytealg.Compare"], unfollowed := true, recurses := true, plainKeys := false, apart := false }
def TrackerRoomSaid : Prop := trackerRoomRow.holds Try.pinned (OpenSpec.ofChange trackerRoomSpec)

/-- ITS FALSE NEIGHBOUR: 'it returns false'. Refute it at one input. -/
def trackerRoomWrong : ChangeSpec := { name := "trackerRoom", fn := fun _ => fun
  | [d1, d2] => { results := [.lit (.bool false)], args := [d1, d2] }
  | _ => none }
def TrackerRoomWrongFalsely : Prop := trackerRoomRow.holds Try.pinned (OpenSpec.ofChange trackerRoomWrong)

/-- 'starlinglaw11.TrackerScripts': WHATEVER THE INPUT: true; the input reads as it did. -/
def trackerScriptsSpec : ChangeSpec := { name := "trackerScripts", fn := fun _ => fun
  | [d1, d2, d3] => { results := [.lit (.bool true)], args := [d1, d2, d3] }
  | _ => none }
def trackerScriptsRow : OpenClaim := { program := "ytnohglkilpnjhaa", sum := "8d252b9e12f25f0beb30dd04b3624b08d50b508e02cb69289abc8e2b6a3e0514", func := "starling/starlinglaw11.TrackerScripts", spec := "trackerScripts", inPlace := ["internal/bytealg.Compare"], unfollowed := true, recurses := true, plainKeys := false, apart := false }
def TrackerScriptsSaid : Prop := trackerScriptsRow.holds Try.pinned (OpenSpec.ofChange trackerScriptsSpec)

/-- ITS FALSE NEIGHBOUR: 'it returns false'. Refute it at one input. -/
def trackerScriptsWrong : ChangeSpec := { name := "trackerScripts", fn := fun _ => fun
  | [d1, d2, d3] => { results := [.lit (.bool false)], args := [d1, d2, d3] }
  | _ => none }
def TrackerScriptsWrongFalsely : Prop := trackerScriptsRow.holds Try.pinned (OpenSpec.ofChange trackerScriptsWrong)

/-- 'starlinglaw11.TrackerBounds': WHATEVER THE INPUT: true; the input reads as it did. -/
def trackerBoundsSpec : ChangeSpec := { name := "trackerBounds", fn := fun _ => fun
  | [d1, d2, d3] => { results := [.lit (.bool true)], args := [d1, d2, d3] }
  | _ => none }
def trackerBoundsRow : OpenClaim := { program := "ytnohglkilpnjhaa", sum := "8d252b9e12f25f0beb30dd04b3624b08d50b508e02cb69289abc8e2b6a3e0514", func := "starling/starlinglaw11.TrackerBounds", spec := "trackerBounds", inPlace := ["internal/bytealg.Compare"], unfollowed := true, recurses := true, plainKeys := false, apart := false }
def TrackerBoundsSaid : Prop := trackerBoundsRow.holds Try.pinned (OpenSpec.ofChange trackerBoundsSpec)

/-- ITS FALSE NEIGHBOUR: 'it returns false'. Refute it at one input. -/
def trackerBoundsWrong : ChangeSpec := { name := "trackerBounds", fn := fun _ => fun
  | [d1, d2, d3] => { results := [.lit (.bool false)], args := [d1, d2, d3] }
  | _ => none }
def TrackerBoundsWrongFalsely : Prop := trackerBoundsRow.holds Try.pinned (OpenSpec.ofChange trackerBoundsWrong)

/-- 'starlinglaw11.TrackerAsks': WHATEVER THE INPUT: true; the input reads as it did. -/
def trackerAsksSpec : ChangeSpec := { name := "trackerAsks", fn := fun _ => fun
  | [d1, d2, d3] => { results := [.lit (.bool true)], args := [d1, d2, d3] }
  | _ => none }
def trackerAsksRow : OpenClaim := { program := "ytnohglkilpnjhaa", sum := "8d252b9e12f25f0beb30dd04b3624b08d50b508e02cb69289abc8e2b6a3e0514", func := "starling/starlinglaw11.TrackerAsks", spec := "trackerAsks", inPlace := ["internal/bytealg.Compare"], unfollowed := true, recurses := true, plainKeys := false, apart := false }
def TrackerAsksSaid : Prop := trackerAsksRow.holds Try.pinned (OpenSpec.ofChange trackerAsksSpec)

/-- ITS FALSE NEIGHBOUR: 'it returns false'. Refute it at one input. -/
def trackerAsksWrong : ChangeSpec := { name := "trackerAsks", fn := fun _ => fun
  | [d1, d2, d3] => { results := [.lit (.bool false)], args := [d1, d2, d3] }
  | _ => none }
def TrackerAsksWrongFalsely : Prop := trackerAsksRow.holds Try.pinned (OpenSpec.ofChange trackerAsksWrong)

/-- 'starlinglaw11.TrackerApart': WHATEVER THE INPUT: true; the input reads as it did. -/
def trackerApartSpec : ChangeSpec := { name := "trackerApart", fn := fun _ => fun
  | [d] => { results := [.lit (.bool true)], args := [d] }
  | _ => none }
def trackerApartRow : OpenClaim := { program := "ytnohglkilpnjhaa", sum := "8d252b9e12f25f0beb30dd04b3624b08d50b508e02cb69289abc8e2b6a3e0514", func := "starling/starlinglaw11.TrackerApart", spec := "trackerApart", inPlace := ["internal/bytealg.Compare"], unfollowed := true, recurses := true, plainKeys := false, apart := false }
def TrackerApartSaid : Prop := trackerApartRow.holds Try.pinned (OpenSpec.ofChange trackerApartSpec)

/-- ITS FALSE NEIGHBOUR: 'it returns false'. Refute it at one input. -/
def trackerApartWrong : ChangeSpec := { name := "trackerApart", fn := fun _ => fun
  | [d] => { results := [.lit (.bool false)], args := [d] }
  | _ => none }
def TrackerApartWrongFalsely : Prop := trackerApartRow.holds Try.pinned (OpenSpec.ofChange trackerApartWrong)

/- THE SECOND FORM. 'bulk': how many values and letters a reading holds, each counted each time it is reached (what is shared counts as often as it is met; a slice's spare places count too). A statement '..UptoSaid' is the law's where the arguments, and the package variables that the reading takes, are together of bulk at most 1048576: NARROWER than '..Said'. Prove '..Said' where nothing that the law and all that it calls make is longer than what came in: it says more and counts as full. Else prove '..UptoSaid'. A law counts once. -/
mutual
def uptoBulk {H : Type} : DataW H → Nat
  | .lit (.string bytes) => bytes.length + 1
  | .lit _ => 1
  | .nil => 1
  | .ptr d => uptoBulk d + 1
  | .slice elems spare => uptoBulkAll elems + uptoBulkAll spare + 1
  | .agg parts => uptoBulkAll parts + 1
  | .iface _ d => uptoBulk d + 1
  | .map entries => uptoBulkEntries entries + 1
  | .held _ => 1
def uptoBulkAll {H : Type} : List (DataW H) → Nat
  | [] => 0
  | d :: r => uptoBulk d + uptoBulkAll r
def uptoBulkEntries {H : Type} : List (Lit × DataW H) → Nat
  | [] => 0
  | x :: r => uptoBulkEntry x + uptoBulkEntries r
def uptoBulkEntry {H : Type} : Lit × DataW H → Nat
  | (.string bytes, d) => bytes.length + uptoBulk d + 1
  | (_, d) => uptoBulk d + 1
 end
def uptoSmall : (H : Type) → List (DataW H) → Bool := fun _ ds => decide (uptoBulkAll ds ≤ 1048576)
def OpenSpec.upto (s : _root_.Go.ChangeSpec) : _root_.Go.OpenSpec := { _root_.Go.OpenSpec.ofChange s with cond := some uptoSmall }

/-- 'starlinglaw11.TrackerFirst', WHERE WHAT IT READS IS OF BULK AT MOST 1048576: true; the input reads as it did. -/
def trackerFirstUptoRow : OpenClaim := { program := "ytnohglkilpnjhaa", sum := "8d252b9e12f25f0beb30dd04b3624b08d50b508e02cb69289abc8e2b6a3e0514", func := "starling/starlinglaw11.TrackerFirst", spec := "trackerFirst", inPlace := ["internal/bytealg.Compare"], unfollowed := true, recurses := true, plainKeys := false, apart := false, narrowed := true }
def TrackerFirstUptoSaid : Prop := trackerFirstUptoRow.holds Try.pinned (OpenSpec.upto trackerFirstSpec)

/-- 'starlinglaw11.TrackerRoom', WHERE WHAT IT READS IS OF BULK AT MOST 1048576: true; the input reads as it did. -/
def trackerRoomUptoRow : OpenClaim := { program := "ytnohglkilpnjhaa", sum := "8d252b9e12f25f0beb30dd04b3624b08d50b508e02cb69289abc8e2b6a3e0514", func := "starling/starlinglaw11.TrackerRoom", spec := "trackerRoom", inPlace := ["internal/bytealg.Compare"], unfollowed := true, recurses := true, plainKeys := false, apart := false, narrowed := true }
def TrackerRoomUptoSaid : Prop := trackerRoomUptoRow.holds Try.pinned (OpenSpec.upto trackerRoomSpec)

/-- 'starlinglaw11.TrackerScripts', WHERE WHAT IT READS IS OF BULK AT MOST 1048576: true; the input reads as it did. -/
def trackerScriptsUptoRow : OpenClaim := { program := "ytnohglkilpnjhaa", sum := "8d252b9e12f25f0beb30dd04b3624b08d50b508e02cb69289abc8e2b6a3e0514", func := "starling/starlinglaw11.TrackerScripts", spec := "trackerScripts", inPlace := ["internal/bytealg.Compare"], unfollowed := true, recurses := true, plainKeys := false, apart := false, narrowed := true }
def TrackerScriptsUptoSaid : Prop := trackerScriptsUptoRow.holds Try.pinned (OpenSpec.upto trackerScriptsSpec)

/-- 'starlinglaw11.TrackerBounds', WHERE WHAT IT READS IS OF BULK AT MOST 1048576: true; the input reads as it did. -/
def trackerBoundsUptoRow : OpenClaim := { program := "ytnohglkilpnjhaa", sum := "8d252b9e12f25f0beb30dd04b3624b08d50b508e02cb69289abc8e2b6a3e0514", func := "starling/starlinglaw11.TrackerBounds", spec := "trackerBounds", inPlace := ["internal/bytealg.Compare"], unfollowed := true, recurses := true, plainKeys := false, apart := false, narrowed := true }
def TrackerBoundsUptoSaid : Prop := trackerBoundsUptoRow.holds Try.pinned (OpenSpec.upto trackerBoundsSpec)

/-- 'starlinglaw11.TrackerAsks', WHERE WHAT IT READS IS OF BULK AT MOST 1048576: true; the input reads as it did. -/
def trackerAsksUptoRow : OpenClaim := { program := "ytnohglkilpnjhaa", sum := "8d252b9e12f25f0beb30dd04b3624b08d50b508e02cb69289abc8e2b6a3e0514", func := "starling/starlinglaw11.TrackerAsks", spec := "trackerAsks", inPlace := ["internal/bytealg.Compare"], unfollowed := true, recurses := true, plainKeys := false, apart := false, narrowed := true }
def TrackerAsksUptoSaid : Prop := trackerAsksUptoRow.holds Try.pinned (OpenSpec.upto trackerAsksSpec)

/-- 'starlinglaw11.TrackerApart', WHERE WHAT IT READS IS OF BULK AT MOST 1048576: true; the input reads as it did. -/
def trackerApartUptoRow : OpenClaim := { program := "ytnohglkilpnjhaa", sum := "8d252b9e12f25f0beb30dd04b3624b08d50b508e02cb69289abc8e2b6a3e0514", func := "starling/starlinglaw11.TrackerApart", spec := "trackerApart", inPlace := ["internal/bytealg.Compare"], unfollowed := true, recurses := true, plainKeys := false, apart := false, narrowed := true }
def TrackerApartUptoSaid : Prop := trackerApartUptoRow.holds Try.pinned (OpenSpec.upto trackerApartSpec)

end Rows
end Go.Proofs.Ytnohglkilpnjhaa
