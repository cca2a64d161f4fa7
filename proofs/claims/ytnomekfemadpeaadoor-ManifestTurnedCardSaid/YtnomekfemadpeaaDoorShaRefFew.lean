/- The walks of the reference's turned, two and constants. Condition of turned: by 1 to 31 places. -/
import Derived.Test.YtnomekfemadpeaaDoorShaTake
namespace Go.Proofs.YtnomekfemadpeaaDoor
open Go.RowKit
set_option linter.unusedVariables false

theorem xor_or_apart (x n m : Nat) (hx : x < 4294967296) (h : n + m = 32) : x / 2 ^ n ^^^ x * 2 ^ m % 4294967296 = x * 2 ^ m % 4294967296 ||| x / 2 ^ n := by
  apply Nat.eq_of_testBit_eq
  intro i
  rw [Nat.testBit_xor, Nat.testBit_or, Nat.testBit_div_two_pow, show (4294967296 : Nat) = 2 ^ 32 from rfl, Nat.testBit_mod_two_pow, Nat.testBit_mul_two_pow]
  by_cases hi : m ≤ i
  · have : x.testBit (i + n) = false := Nat.testBit_lt_two_pow (Nat.lt_of_lt_of_le hx (by
      rw [show (4294967296 : Nat) = 2 ^ 32 from rfl]; exact Nat.pow_le_pow_right (by decide) (by omega)))
    simp [this]
  · have : decide (m ≤ i) = false := by simp; omega
    simp [this]

theorem w32_rotx (x : UInt32) (n m : Nat) (h : n + m = 32) : bits BinOp.xor IntKind.u32 (w32 x / 2 ^ n) (IntKind.u32.wrap (w32 x * 2 ^ m)) = w32 (rotr x n) := by
  have hx := x.toNat_lt
  have e1 : IntKind.u32.wrap (w32 x * 2 ^ m) = ((x.toNat * 2 ^ m % 4294967296 : Nat) : Int) := by
    rw [IntKind.wrap_u32']; unfold w32; simp
  have e2 : w32 x / 2 ^ n = ((x.toNat / 2 ^ n : Nat) : Int) := by unfold w32; simp
  have h1 : x.toNat / 2 ^ n < 4294967296 := Nat.lt_of_le_of_lt (Nat.div_le_self _ _) (by omega)
  rw [e1, e2, u32_xor_nat _ _ h1 (Nat.mod_lt _ (by decide)), w32_nat, rotr_nat, xor_or_apart _ _ _ (by omega) h, show 32 - n = m from by omega]

set_option maxRecDepth 100000 in
theorem turned_any (x : UInt32) (k : Int) (w : World) (h1 : 0 < k) (h2 : k < 32) : Calls Tryd.prog 89 #[.int .u32 (w32 x), .int .u64 k] w fun e w' => e = .returned (.int .u32 (w32 (rotr x k.toNat))) ∧ w = w' := by
  obtain ⟨n, rfl⟩ : ∃ n : Nat, k = n := ⟨k.toNat, by omega⟩
  have hn : n < 32 := by omega
  have e1 : (32 - (n : Int)).toNat = 32 - n := by omega
  go_enter Tryd.func89, Tryd.ntmps89
  go_wp2
  go_ret
  refine ⟨?_, rfl⟩
  exact ret_int (w32_rotx x n (32 - n) (by omega))

theorem maj_eq (a b c : UInt32) : a &&& b ||| a &&& c ||| b &&& c = maj a b c := by
  unfold maj
  apply UInt32.toBitVec_inj.1
  simp only [UInt32.toBitVec_or, UInt32.toBitVec_and]
  apply BitVec.eq_of_getLsbD_eq
  intro i hi
  simp only [BitVec.getLsbD_or, BitVec.getLsbD_and]
  cases a.toBitVec.getLsbD i <;> cases b.toBitVec.getLsbD i <;> cases c.toBitVec.getLsbD i <;> rfl

theorem ch_eq (e f g : UInt32) : e &&& f ||| ~~~e &&& g = ch e f g := by
  unfold ch
  apply UInt32.toBitVec_inj.1
  simp only [UInt32.toBitVec_or, UInt32.toBitVec_and, UInt32.toBitVec_xor, UInt32.toBitVec_not]
  apply BitVec.eq_of_getLsbD_eq
  intro i hi
  simp only [BitVec.getLsbD_or, BitVec.getLsbD_and, BitVec.getLsbD_xor, BitVec.getLsbD_not, hi, decide_true, Bool.true_and]
  cases e.toBitVec.getLsbD i <;> cases f.toBitVec.getLsbD i <;> cases g.toBitVec.getLsbD i <;> rfl

attribute [local go_sem] w32_add w32_xor w32_and w32_or

set_option maxRecDepth 100000 in
theorem two_any (a b c : UInt32) (w : World) : Calls Tryd.prog 90 #[.int .u32 (w32 a), .int .u32 (w32 b), .int .u32 (w32 c)] w fun e w' => e = .returned (.int .u32 (w32 (maj a b c))) ∧ w = w' := by
  rw [← maj_eq]
  go_enter Tryd.func90, Tryd.ntmps90
  go_wp2
  go_ret
  exact ⟨rfl, rfl⟩

end Go.Proofs.YtnomekfemadpeaaDoor
