/- The walk of the law TlvNumbers: it answers true. No condition. -/
import Derived.Test.YtalhpcdmofcddaaTlvAwake
import Derived.Deep.RegionHeld3
namespace Go.Proofs.Ytalhpcdmofcddaa
open Go.RowKit
set_option linter.unusedVariables false




set_option maxRecDepth 100000 in
set_option maxHeartbeats 3200000 in
theorem TlvNumbers_walk (n : Nat) (k : Int) (w : World) (hn : n < 18446744073709551616) (h1 : -9223372036854775808 ≤ k) (h2 : k ≤ 9223372036854775807) :
    Calls Try.prog 4 #[.int .u64 n, .int .i64 k] w fun e w' => e = .returned (.bool true) ∧ Below w.heap.size w w' := by
  go_enter Try.func4, Try.ntmps4
  go_wp2_with fail
  refine (awake_any _).mono ?_
  rintro e w1 ⟨rfl, hb⟩
  go_wp2_with fail
  go_region_with (first | (go_at_call 15; refine (Uint_at _ n _ rfl hn).mono ?_; rintro e w2 ⟨v2, rfl, ho2, hb2⟩; have hs2 := ho2.bytes.str; have hbA := below_next hb.drew hb2) | (go_at_call 16; refine (refUint_at _ n _ rfl hn).mono ?_; rintro e w3 ⟨v3, rfl, ho3, hb3⟩; have hs3 := ho3.bytes.str; have hbB := below_next hbA hb3; have hs2' := (ho2.bytes.of_new hb3).str) | (go_at_call 17; refine (Int_any k _ h1 h2).mono ?_; rintro e w4 ⟨v4, rfl, ho4, hb4⟩; have hs4 := ho4.bytes.str; have hbC := below_next hbB hb4) | (go_at_call 18; refine (refInt_any k _ h1 h2).mono ?_; rintro e w5 ⟨v5, rfl, ho5, hb5⟩; have hs5 := ho5.bytes.str; have hbD := below_next hbC hb5; have hs4' := (ho4.bytes.of_new hb5).str))
  all_goals go_wp2
  all_goals go_ret
  all_goals exact ⟨rfl, hbD⟩

end Go.Proofs.Ytalhpcdmofcddaa
