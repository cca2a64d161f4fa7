/- The walk of the law TlvTold: it answers true. No condition. -/
import Derived.Test.YtalhpcdmofcddaaTlvTo
import Derived.Test.YtalhpcdmofcddaaTlvAwake
namespace Go.Proofs.Ytalhpcdmofcddaa
open Go.RowKit
set_option linter.unusedVariables false

set_option maxRecDepth 100000 in
set_option maxHeartbeats 3200000 in
theorem TlvTold_walk (v : Value) (l : List UInt8) (w : World) (hl : Bytes w v l) :
    Calls Try.prog 6 #[v] w fun e w' => e = .returned (.bool true) ∧ Below w.heap.size w w' := by
  obtain ⟨a, c, hv⟩ := hl.len
  have HL := Lib.hid hl
  clear hl
  subst hv
  go_enter Try.func6, Try.ntmps6
  go_wp2_with fail
  refine (awake_any _).mono ?_
  rintro e w1 ⟨rfl, hb⟩
  by_cases hlong : (1000 : Int) < l.length
  · go_wp2
    go_ret
    exact ⟨rfl, hb⟩
  · go_wp2_with fail
    refine (ToUint_any _ l _ (HL.out.of_new hb)).mono ?_
    rintro e w2 ⟨rfl, hb2⟩
    have hbA := below_next hb hb2
    go_wp2_with fail
    refine (refToUint_any _ l _ (HL.out.of_new hbA)).mono ?_
    rintro e w3 ⟨rfl, hb3⟩
    have hbB := below_next hbA hb3
    go_wp2_with fail
    refine (ToInt_any _ l _ (HL.out.of_new hbB)).mono ?_
    rintro e w4 ⟨rfl, hb4⟩
    have hbC := below_next hbB hb4
    go_wp2_with fail
    refine (refToInt_any _ l _ (HL.out.of_new hbC)).mono ?_
    rintro e w5 ⟨rfl, hb5⟩
    have hbD := below_next hbC hb5
    go_wp2
    go_ret
    exact ⟨rfl, hbD⟩

end Go.Proofs.Ytalhpcdmofcddaa
