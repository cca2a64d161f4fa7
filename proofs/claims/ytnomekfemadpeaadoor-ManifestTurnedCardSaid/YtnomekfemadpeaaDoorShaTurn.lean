/- The walk of digest.turn, through math/bits.RotateLeft32: a word turned to the right. Condition: by one of the places that the hash uses. -/
import Derived.Test.YtnomekfemadpeaaDoorProg
import Derived.Test.YtnomekfemadpeaaDoorBase
import Derived.Test.YtnomekfemadpeaaDoorCommon
import Derived.Test.YtnomekfemadpeaaDoorShaSpec
namespace Go.Proofs.YtnomekfemadpeaaDoor
open Go.RowKit
set_option linter.unusedVariables false


set_option maxRecDepth 100000 in
theorem turn_gen (x : UInt32) (k q r : Int) (n m : Nat) (w : World) (h : n + m = 32) (hk : -k = q) (hn : 0 < k) (hk2 : k < 32) (hq : bits BinOp.and IntKind.u64 (IntKind.u64.wrap q) 31 = (m : Int)) (hm : m < 32) (hnk : k = n) :
    Calls Tryd.prog 84 #[.int .u32 (w32 x), .int .i64 k] w fun e w' => e = .returned (.int .u32 (w32 (rotr x n))) ∧ w = w' := by
  have H := Lib.hid h
  have HK := Lib.hid hnk
  have e1 : bits BinOp.and IntKind.u64 (IntKind.u64.wrap (-k)) 31 = (m : Int) := by rw [hk]; exact hq
  have e2 : (32 - (m : Int)).toNat = n := by omega
  have hm0 : (0 : Int) ≤ m := by omega
  have hm1 : (m : Int) ≤ 31 := by omega
  clear h hnk hk hq
  go_enter Tryd.func84, Tryd.ntmps84
  go_wp2
  go_ret
  refine ⟨?_, rfl⟩
  exact ret_int (w32_rot x n m H.out)

theorem turn6 (x : UInt32) (w : World) : Calls Tryd.prog 84 #[.int .u32 (w32 x), .int .i64 6] w fun e w' => e = .returned (.int .u32 (w32 (rotr x 6))) ∧ w = w' :=
  turn_gen x 6 (-6) 26 6 26 w (by decide) (by decide) (by decide) (by decide) (by decide +kernel) (by decide) (by decide)

theorem turn11 (x : UInt32) (w : World) : Calls Tryd.prog 84 #[.int .u32 (w32 x), .int .i64 11] w fun e w' => e = .returned (.int .u32 (w32 (rotr x 11))) ∧ w = w' :=
  turn_gen x 11 (-11) 21 11 21 w (by decide) (by decide) (by decide) (by decide) (by decide +kernel) (by decide) (by decide)

theorem turn25 (x : UInt32) (w : World) : Calls Tryd.prog 84 #[.int .u32 (w32 x), .int .i64 25] w fun e w' => e = .returned (.int .u32 (w32 (rotr x 25))) ∧ w = w' :=
  turn_gen x 25 (-25) 7 25 7 w (by decide) (by decide) (by decide) (by decide) (by decide +kernel) (by decide) (by decide)

theorem turn2 (x : UInt32) (w : World) : Calls Tryd.prog 84 #[.int .u32 (w32 x), .int .i64 2] w fun e w' => e = .returned (.int .u32 (w32 (rotr x 2))) ∧ w = w' :=
  turn_gen x 2 (-2) 30 2 30 w (by decide) (by decide) (by decide) (by decide) (by decide +kernel) (by decide) (by decide)

theorem turn13 (x : UInt32) (w : World) : Calls Tryd.prog 84 #[.int .u32 (w32 x), .int .i64 13] w fun e w' => e = .returned (.int .u32 (w32 (rotr x 13))) ∧ w = w' :=
  turn_gen x 13 (-13) 19 13 19 w (by decide) (by decide) (by decide) (by decide) (by decide +kernel) (by decide) (by decide)

theorem turn22 (x : UInt32) (w : World) : Calls Tryd.prog 84 #[.int .u32 (w32 x), .int .i64 22] w fun e w' => e = .returned (.int .u32 (w32 (rotr x 22))) ∧ w = w' :=
  turn_gen x 22 (-22) 10 22 10 w (by decide) (by decide) (by decide) (by decide) (by decide +kernel) (by decide) (by decide)

theorem turn7 (x : UInt32) (w : World) : Calls Tryd.prog 84 #[.int .u32 (w32 x), .int .i64 7] w fun e w' => e = .returned (.int .u32 (w32 (rotr x 7))) ∧ w = w' :=
  turn_gen x 7 (-7) 25 7 25 w (by decide) (by decide) (by decide) (by decide) (by decide +kernel) (by decide) (by decide)

theorem turn18 (x : UInt32) (w : World) : Calls Tryd.prog 84 #[.int .u32 (w32 x), .int .i64 18] w fun e w' => e = .returned (.int .u32 (w32 (rotr x 18))) ∧ w = w' :=
  turn_gen x 18 (-18) 14 18 14 w (by decide) (by decide) (by decide) (by decide) (by decide +kernel) (by decide) (by decide)

theorem turn17 (x : UInt32) (w : World) : Calls Tryd.prog 84 #[.int .u32 (w32 x), .int .i64 17] w fun e w' => e = .returned (.int .u32 (w32 (rotr x 17))) ∧ w = w' :=
  turn_gen x 17 (-17) 15 17 15 w (by decide) (by decide) (by decide) (by decide) (by decide +kernel) (by decide) (by decide)

theorem turn19 (x : UInt32) (w : World) : Calls Tryd.prog 84 #[.int .u32 (w32 x), .int .i64 19] w fun e w' => e = .returned (.int .u32 (w32 (rotr x 19))) ∧ w = w' :=
  turn_gen x 19 (-19) 13 19 13 w (by decide) (by decide) (by decide) (by decide) (by decide +kernel) (by decide) (by decide)


theorem turn_mask (k : Int) (h1 : 0 < k) (h2 : k < 32) : bits BinOp.and IntKind.u64 (IntKind.u64.wrap (-k)) 31 = ((32 - k.toNat : Nat) : Int) := by
  have : ∀ n : Fin 31, bits BinOp.and IntKind.u64 (IntKind.u64.wrap (-((n.val : Int) + 1))) 31 = ((32 - (n.val + 1) : Nat) : Int) := by decide +kernel
  have h := this ⟨(k - 1).toNat, by omega⟩
  have e : (((k - 1).toNat : Nat) : Int) + 1 = k := by omega
  simp only [e] at h
  rw [h]
  congr 1
  omega

theorem turn_any (x : UInt32) (k : Int) (w : World) (h1 : 0 < k) (h2 : k < 32) : Calls Tryd.prog 84 #[.int .u32 (w32 x), .int .i64 k] w fun e w' => e = .returned (.int .u32 (w32 (rotr x k.toNat))) ∧ w = w' :=
  turn_gen x k (-k) 0 k.toNat (32 - k.toNat) w (by omega) rfl h1 h2 (turn_mask k h1 h2) (by omega) (by omega)

end Go.Proofs.YtnomekfemadpeaaDoor
