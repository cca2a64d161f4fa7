/-
  No cell of these rows narrows 'for every input' (looked for: loops, veiled, ifaces, maps, wideKeys, modest, calm, conditions, laid).
  DERIVED. THE GIVEN ROWS OF THIS SEAT. 8 by the template 'for every input the law returns true; each argument reads behind the call as it read before'; 0 by the template 'total and deterministic' (their statements: YtalhpcdmofcddaaTotals.lean).
  GIVEN WITH THE SEED: the statements are not yours to turn. If you find one false, say at which input.
  Laid BY PROGRAM, IN A SANDBOX (cutbox-rows.mjs): the forced cells as the released guide's own fill.sh prints them over the translation 4726f5f859703dfc… (all of the seat's roots in one cut). By AI agents, Wed Nov 11 2026. No macro, syntax, notation, axiom, sorry.
-/
import Derived.Test.YtalhpcdmofcddaaChecked
import GoSem.Claim
import GoSem.ClaimJoined
import GoSem.ClaimMapViews
import Derived.JoinedTies
import Derived.KernelRfl
namespace Go.Proofs.Ytalhpcdmofcddaa
/- THE CELL 'sum', in the pinned program and in every row, IS THE sha256 OF THE DUMP (.gsa) THAT YtalhpcdmofcddaaProg.lean LOADS. Nothing in Lean hashes anything: it is a label: what it is worth is what the hold of that sum in a sandbox is worth. -/
noncomputable def Try.pinned : Pinned := { name := "ytalhpcdmofcddaa", sum := "4726f5f859703dfc32940c01562dd2ba48b48e7390b12007c164afac13c7ea36", checked := Try.checked }
namespace Rows
def none {H : Type} : Left H := { results := [], args := [] }

/-- 'starlinglaw03.TlvEncodes': WHATEVER THE INPUT: true; the input reads as it did. -/
def tlvEncodesSpec : ChangeSpec := { name := "tlvEncodes", fn := fun _ => fun
  | [d] => { results := [.lit (.bool true)], args := [d] }
  | _ => none }
def tlvEncodesRow : OpenClaim := { program := "ytalhpcdmofcddaa", sum := "4726f5f859703dfc32940c01562dd2ba48b48e7390b12007c164afac13c7ea36", func := "starling/starlinglaw03.TlvEncodes", spec := "tlvEncodes", apart := false }
def TlvEncodesSaid : Prop := tlvEncodesRow.holds Try.pinned (OpenSpec.ofChange tlvEncodesSpec)

/-- ITS FALSE NEIGHBOUR: 'it returns false'. Refute it at one input. -/
def tlvEncodesWrong : ChangeSpec := { name := "tlvEncodes", fn := fun _ => fun
  | [d] => { results := [.lit (.bool false)], args := [d] }
  | _ => none }
def TlvEncodesWrongFalsely : Prop := tlvEncodesRow.holds Try.pinned (OpenSpec.ofChange tlvEncodesWrong)

/-- 'starlinglaw03.TlvNumbers': WHATEVER THE INPUT: true; the input reads as it did. -/
def tlvNumbersSpec : ChangeSpec := { name := "tlvNumbers", fn := fun _ => fun
  | [d1, d2] => { results := [.lit (.bool true)], args := [d1, d2] }
  | _ => none }
def tlvNumbersRow : OpenClaim := { program := "ytalhpcdmofcddaa", sum := "4726f5f859703dfc32940c01562dd2ba48b48e7390b12007c164afac13c7ea36", func := "starling/starlinglaw03.TlvNumbers", spec := "tlvNumbers", apart := false }
def TlvNumbersSaid : Prop := tlvNumbersRow.holds Try.pinned (OpenSpec.ofChange tlvNumbersSpec)

/-- ITS FALSE NEIGHBOUR: 'it returns false'. Refute it at one input. -/
def tlvNumbersWrong : ChangeSpec := { name := "tlvNumbers", fn := fun _ => fun
  | [d1, d2] => { results := [.lit (.bool false)], args := [d1, d2] }
  | _ => none }
def TlvNumbersWrongFalsely : Prop := tlvNumbersRow.holds Try.pinned (OpenSpec.ofChange tlvNumbersWrong)

/-- 'starlinglaw03.TlvFinds': WHATEVER THE INPUT: true; the input reads as it did. -/
def tlvFindsSpec : ChangeSpec := { name := "tlvFinds", fn := fun _ => fun
  | [d1, d2] => { results := [.lit (.bool true)], args := [d1, d2] }
  | _ => none }
def tlvFindsRow : OpenClaim := { program := "ytalhpcdmofcddaa", sum := "4726f5f859703dfc32940c01562dd2ba48b48e7390b12007c164afac13c7ea36", func := "starling/starlinglaw03.TlvFinds", spec := "tlvFinds", apart := false }
def TlvFindsSaid : Prop := tlvFindsRow.holds Try.pinned (OpenSpec.ofChange tlvFindsSpec)

/-- ITS FALSE NEIGHBOUR: 'it returns false'. Refute it at one input. -/
def tlvFindsWrong : ChangeSpec := { name := "tlvFinds", fn := fun _ => fun
  | [d1, d2] => { results := [.lit (.bool false)], args := [d1, d2] }
  | _ => none }
def TlvFindsWrongFalsely : Prop := tlvFindsRow.holds Try.pinned (OpenSpec.ofChange tlvFindsWrong)

/-- 'starlinglaw03.TlvTold': WHATEVER THE INPUT: true; the input reads as it did. -/
def tlvToldSpec : ChangeSpec := { name := "tlvTold", fn := fun _ => fun
  | [d] => { results := [.lit (.bool true)], args := [d] }
  | _ => none }
def tlvToldRow : OpenClaim := { program := "ytalhpcdmofcddaa", sum := "4726f5f859703dfc32940c01562dd2ba48b48e7390b12007c164afac13c7ea36", func := "starling/starlinglaw03.TlvTold", spec := "tlvTold", apart := false }
def TlvToldSaid : Prop := tlvToldRow.holds Try.pinned (OpenSpec.ofChange tlvToldSpec)

/-- ITS FALSE NEIGHBOUR: 'it returns false'. Refute it at one input. -/
def tlvToldWrong : ChangeSpec := { name := "tlvTold", fn := fun _ => fun
  | [d] => { results := [.lit (.bool false)], args := [d] }
  | _ => none }
def TlvToldWrongFalsely : Prop := tlvToldRow.holds Try.pinned (OpenSpec.ofChange tlvToldWrong)

/-- 'starlinglaw03.TlvSigns': WHATEVER THE INPUT: true; the input reads as it did. -/
def tlvSignsSpec : ChangeSpec := { name := "tlvSigns", fn := fun _ => fun
  | [d1, d2] => { results := [.lit (.bool true)], args := [d1, d2] }
  | _ => none }
def tlvSignsRow : OpenClaim := { program := "ytalhpcdmofcddaa", sum := "4726f5f859703dfc32940c01562dd2ba48b48e7390b12007c164afac13c7ea36", func := "starling/starlinglaw03.TlvSigns", spec := "tlvSigns", apart := false }
def TlvSignsSaid : Prop := tlvSignsRow.holds Try.pinned (OpenSpec.ofChange tlvSignsSpec)

/-- ITS FALSE NEIGHBOUR: 'it returns false'. Refute it at one input. -/
def tlvSignsWrong : ChangeSpec := { name := "tlvSigns", fn := fun _ => fun
  | [d1, d2] => { results := [.lit (.bool false)], args := [d1, d2] }
  | _ => none }
def TlvSignsWrongFalsely : Prop := tlvSignsRow.holds Try.pinned (OpenSpec.ofChange tlvSignsWrong)

/-- 'starlinglaw03.TlvDecodes': WHATEVER THE INPUT: true; the input reads as it did. -/
def tlvDecodesSpec : ChangeSpec := { name := "tlvDecodes", fn := fun _ => fun
  | [d] => { results := [.lit (.bool true)], args := [d] }
  | _ => none }
def tlvDecodesRow : OpenClaim := { program := "ytalhpcdmofcddaa", sum := "4726f5f859703dfc32940c01562dd2ba48b48e7390b12007c164afac13c7ea36", func := "starling/starlinglaw03.TlvDecodes", spec := "tlvDecodes", unfollowed := true, recurses := true, apart := false }
def TlvDecodesSaid : Prop := tlvDecodesRow.holds Try.pinned (OpenSpec.ofChange tlvDecodesSpec)

/-- ITS FALSE NEIGHBOUR: 'it returns false'. Refute it at one input. -/
def tlvDecodesWrong : ChangeSpec := { name := "tlvDecodes", fn := fun _ => fun
  | [d] => { results := [.lit (.bool false)], args := [d] }
  | _ => none }
def TlvDecodesWrongFalsely : Prop := tlvDecodesRow.holds Try.pinned (OpenSpec.ofChange tlvDecodesWrong)

/-- 'starlinglaw03.TlvJoins': WHATEVER THE INPUT: true; the input reads as it did. -/
def tlvJoinsSpec : ChangeSpec := { name := "tlvJoins", fn := fun _ => fun
  | [d1, d2] => { results := [.lit (.bool true)], args := [d1, d2] }
  | _ => none }
def tlvJoinsRow : OpenClaim := { program := "ytalhpcdmofcddaa", sum := "4726f5f859703dfc32940c01562dd2ba48b48e7390b12007c164afac13c7ea36", func := "starling/starlinglaw03.TlvJoins", spec := "tlvJoins", unfollowed := true, recurses := true, apart := false }
def TlvJoinsSaid : Prop := tlvJoinsRow.holds Try.pinned (OpenSpec.ofChange tlvJoinsSpec)

/-- ITS FALSE NEIGHBOUR: 'it returns false'. Refute it at one input. -/
def tlvJoinsWrong : ChangeSpec := { name := "tlvJoins", fn := fun _ => fun
  | [d1, d2] => { results := [.lit (.bool false)], args := [d1, d2] }
  | _ => none }
def TlvJoinsWrongFalsely : Prop := tlvJoinsRow.holds Try.pinned (OpenSpec.ofChange tlvJoinsWrong)

/-- 'starlinglaw03.TlvBack': WHATEVER THE INPUT: true; the input reads as it did. -/
def tlvBackSpec : ChangeSpec := { name := "tlvBack", fn := fun _ => fun
  | [d1, d2] => { results := [.lit (.bool true)], args := [d1, d2] }
  | _ => none }
def tlvBackRow : OpenClaim := { program := "ytalhpcdmofcddaa", sum := "4726f5f859703dfc32940c01562dd2ba48b48e7390b12007c164afac13c7ea36", func := "starling/starlinglaw03.TlvBack", spec := "tlvBack", unfollowed := true, recurses := true, apart := false }
def TlvBackSaid : Prop := tlvBackRow.holds Try.pinned (OpenSpec.ofChange tlvBackSpec)

/-- ITS FALSE NEIGHBOUR: 'it returns false'. Refute it at one input. -/
def tlvBackWrong : ChangeSpec := { name := "tlvBack", fn := fun _ => fun
  | [d1, d2] => { results := [.lit (.bool false)], args := [d1, d2] }
  | _ => none }
def TlvBackWrongFalsely : Prop := tlvBackRow.holds Try.pinned (OpenSpec.ofChange tlvBackWrong)

/- THE SECOND FORM. 'bulk': how many values and letters a reading holds, each counted each time it is reached (what is shared counts as often as it is met; a slice's spare places count too). A statement '..UptoSaid' is the law's where the arguments, and the package variables that the reading takes, are together of bulk at most 1048576: NARROWER than '..Said'. Prove '..Said' where nothing that the law and all that it calls make is longer than what came in: it says more and counts as full. Else prove '..UptoSaid'. A law counts once. -/
mutual
def uptoBulk {H : Type} : DataW H → Nat
  | .lit (.string bytes) => bytes.length + 1
  | .lit _ => 1
  | .nil => 1
  | .ptr d => uptoBulk d + 1
  | .slice elems spare => uptoBulkAll elems + uptoBulkAll spare + 1
  | .agg parts => uptoBulkAll parts + 1
  | .iface _ d => uptoBulk d + 1
  | .map entries => uptoBulkEntries entries + 1
  | .held _ => 1
def uptoBulkAll {H : Type} : List (DataW H) → Nat
  | [] => 0
  | d :: r => uptoBulk d + uptoBulkAll r
def uptoBulkEntries {H : Type} : List (Lit × DataW H) → Nat
  | [] => 0
  | x :: r => uptoBulkEntry x + uptoBulkEntries r
def uptoBulkEntry {H : Type} : Lit × DataW H → Nat
  | (.string bytes, d) => bytes.length + uptoBulk d + 1
  | (_, d) => uptoBulk d + 1
 end
def uptoSmall : (H : Type) → List (DataW H) → Bool := fun _ ds => decide (uptoBulkAll ds ≤ 1048576)
def OpenSpec.upto (s : _root_.Go.ChangeSpec) : _root_.Go.OpenSpec := { _root_.Go.OpenSpec.ofChange s with cond := some uptoSmall }

/-- 'starlinglaw03.TlvEncodes', WHERE WHAT IT READS IS OF BULK AT MOST 1048576: true; the input reads as it did. -/
def tlvEncodesUptoRow : OpenClaim := { program := "ytalhpcdmofcddaa", sum := "4726f5f859703dfc32940c01562dd2ba48b48e7390b12007c164afac13c7ea36", func := "starling/starlinglaw03.TlvEncodes", spec := "tlvEncodes", apart := false, narrowed := true }
def TlvEncodesUptoSaid : Prop := tlvEncodesUptoRow.holds Try.pinned (OpenSpec.upto tlvEncodesSpec)

/-- 'starlinglaw03.TlvNumbers', WHERE WHAT IT READS IS OF BULK AT MOST 1048576: true; the input reads as it did. -/
def tlvNumbersUptoRow : OpenClaim := { program := "ytalhpcdmofcddaa", sum := "4726f5f859703dfc32940c01562dd2ba48b48e7390b12007c164afac13c7ea36", func := "starling/starlinglaw03.TlvNumbers", spec := "tlvNumbers", apart := false, narrowed := true }
def TlvNumbersUptoSaid : Prop := tlvNumbersUptoRow.holds Try.pinned (OpenSpec.upto tlvNumbersSpec)

/-- 'starlinglaw03.TlvFinds', WHERE WHAT IT READS IS OF BULK AT MOST 1048576: true; the input reads as it did. -/
def tlvFindsUptoRow : OpenClaim := { program := "ytalhpcdmofcddaa", sum := "4726f5f859703dfc32940c01562dd2ba48b48e7390b12007c164afac13c7ea36", func := "starling/starlinglaw03.TlvFinds", spec := "tlvFinds", apart := false, narrowed := true }
def TlvFindsUptoSaid : Prop := tlvFindsUptoRow.holds Try.pinned (OpenSpec.upto tlvFindsSpec)

/-- 'starlinglaw03.TlvTold', WHERE WHAT IT READS IS OF BULK AT MOST 1048576: true; the input reads as it did. -/
def tlvToldUptoRow : OpenClaim := { program := "ytalhpcdmofcddaa", sum := "4726f5f859703dfc32940c01562dd2ba48b48e7390b12007c164afac13c7ea36", func := "starling/starlinglaw03.TlvTold", spec := "tlvTold", apart := false, narrowed := true }
def TlvToldUptoSaid : Prop := tlvToldUptoRow.holds Try.pinned (OpenSpec.upto tlvToldSpec)

/-- 'starlinglaw03.TlvSigns', WHERE WHAT IT READS IS OF BULK AT MOST 1048576: true; the input reads as it did. -/
def tlvSignsUptoRow : OpenClaim := { program := "ytalhpcdmofcddaa", sum := "4726f5f859703dfc32940c01562dd2ba48b48e7390b12007c164afac13c7ea36", func := "starling/starlinglaw03.TlvSigns", spec := "tlvSigns", apart := false, narrowed := true }
def TlvSignsUptoSaid : Prop := tlvSignsUptoRow.holds Try.pinned (OpenSpec.upto tlvSignsSpec)

/-- 'starlinglaw03.TlvDecodes', WHERE WHAT IT READS IS OF BULK AT MOST 1048576: true; the input reads as it did. -/
def tlvDecodesUptoRow : OpenClaim := { program := "ytalhpcdmofcddaa", sum := "4726f5f859703dfc32940c01562dd2ba48b48e7390b12007c164afac13c7ea36", func := "starling/starlinglaw03.TlvDecodes", spec := "tlvDecodes", unfollowed := true, recurses := true, apart := false, narrowed := true }
def TlvDecodesUptoSaid : Prop := tlvDecodesUptoRow.holds Try.pinned (OpenSpec.upto tlvDecodesSpec)

/-- 'starlinglaw03.TlvJoins', WHERE WHAT IT READS IS OF BULK AT MOST 1048576: true; the input reads as it did. -/
def tlvJoinsUptoRow : OpenClaim := { program := "ytalhpcdmofcddaa", sum := "4726f5f859703dfc32940c01562dd2ba48b48e7390b12007c164afac13c7ea36", func := "starling/starlinglaw03.TlvJoins", spec := "tlvJoins", unfollowed := true, recurses := true, apart := false, narrowed := true }
def TlvJoinsUptoSaid : Prop := tlvJoinsUptoRow.holds Try.pinned (OpenSpec.upto tlvJoinsSpec)

/-- 'starlinglaw03.TlvBack', WHERE WHAT IT READS IS OF BULK AT MOST 1048576: true; the input reads as it did. -/
def tlvBackUptoRow : OpenClaim := { program := "ytalhpcdmofcddaa", sum := "4726f5f859703dfc32940c01562dd2ba48b48e7390b12007c164afac13c7ea36", func := "starling/starlinglaw03.TlvBack", spec := "tlvBack", unfollowed := true, recurses := true, apart := false, narrowed := true }
def TlvBackUptoSaid : Prop := tlvBackUptoRow.holds Try.pinned (OpenSpec.upto tlvBackSpec)

end Rows
end Go.Proofs.Ytalhpcdmofcddaa
