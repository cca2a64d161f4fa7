/- The walks of the reference's Compare and Near. Condition: hashes of 32 bytes. -/
import Derived.Test.YtakdbhehacbokaaDoorShaNear
namespace Go.Proofs.YtakdbhehacbokaaDoor
open Go.RowKit
set_option linter.unusedVariables false

set_option maxRecDepth 100000 in
set_option maxHeartbeats 800000 in
theorem RCompare_any (a b : List UInt8) (w : World) (ha : a.length = 32) (hb : b.length = 32) :
    Calls Tryd.prog 21 #[.agg (a.map B8).toArray, .agg (b.map B8).toArray] w fun e w' => e = .returned (.int .i64 (cmpL a b)) ∧ Below w.heap.size w w' := by
  have HA := Lib.hid ha
  have HB := Lib.hid hb
  clear ha hb
  go_enter Tryd.func21, Tryd.ntmps21
  go_wp2
  generalize hW1 : (w.alloc _).alloc _ = W1
  obtain ⟨hX, hY, hb1, hz1⟩ : Octs W1 w.heap.size 25 a ∧ Octs W1 (w.heap.size + 1) 25 b ∧ Below w.heap.size w W1 ∧ w.heap.size + 2 = W1.heap.size := by
    subst hW1; exact octs_pair w _ a b _ _ rfl rfl
  clear hW1 hz1
  go_loopw [5] (fun iv wr => ∃ k : Nat, k ≤ 32 ∧ iv = .int .i64 k ∧ cmpL a b = cmpL (a.drop k) (b.drop k) ∧ Octs wr w.heap.size 25 a ∧ Octs wr (w.heap.size + 1) 25 b ∧ Below w.heap.size w wr)
    (fun iv _ => 32 - (intOf iv).toNat)
  case atStart => exact ⟨0, by omega, rfl, by simp, hX, hY, hb1⟩
  case round =>
    clear hX hY hb1
    obtain ⟨k, hk, rfl, hn, hX, hY, hb⟩ := hrel
    by_cases hlt : k < 32
    · have cx := hX.cell (j := k) (by rw [HA.out]; exact hlt)
      have cy := hY.cell (j := k) (by rw [HB.out]; exact hlt)
      rw [cmpL_drop a b k (by rw [HA.out]; exact hlt) (by rw [HB.out]; exact hlt)] at hn
      obtain ⟨x, ex⟩ : ∃ x, x = a.getD k 0 := ⟨_, rfl⟩
      obtain ⟨y, ey⟩ : ∃ x, x = b.getD k 0 := ⟨_, rfl⟩
      rw [← ex, ← ey] at hn
      rw [← ex] at cx
      rw [← ey] at cy
      unfold B8 at cx cy
      have HX := Lib.hid hX
      have HY := Lib.hid hY
      have nk : (0 : Int) ≤ (k : Int) := by omega
      have jk : (k : Int) < 32 := by omega
      clear ex ey hX hY
      simp only [UInt8.lt_iff_toNat_lt] at hn
      rcases Nat.lt_trichotomy x.toNat y.toNat with q | q | q
      · rw [if_pos q] at hn
        have t1 : (x.toNat : Int) < (y.toNat : Int) := by omega
        have HN := Lib.hid hn
        clear hn q
        go_wp2
        go_quiet (fail)
        go_wp2
        go_ret
        exact ⟨ret_int (by rw [HN.out]), hb.trans (below_drewn _)⟩
      · rw [if_neg (by omega), if_neg (by omega)] at hn
        have t1 : ¬ (x.toNat : Int) < (y.toNat : Int) := by omega
        have t2 : ¬ (y.toNat : Int) < (x.toNat : Int) := by omega
        have HN := Lib.hid hn
        clear hn q
        go_wp2
        go_quiet (fail)
        go_wp2
        go_quiet (fail)
        go_wp2
        go_roundw
        case rel =>
          exact ⟨k + 1, by omega, by go_num, HN.out, HX.out.of_block rfl, HY.out.of_block rfl, hb.trans (below_drewn _)⟩
        case measure => simp [intOf]; omega
      · rw [if_neg (by omega), if_pos q] at hn
        have t1 : ¬ (x.toNat : Int) < (y.toNat : Int) := by omega
        have t2 : (y.toNat : Int) < (x.toNat : Int) := by omega
        have HN := Lib.hid hn
        clear hn q
        go_wp2
        go_quiet (fail)
        go_wp2
        go_quiet (fail)
        go_wp2
        go_ret
        exact ⟨ret_int (by rw [HN.out]), (hb.trans (below_drewn _)).trans (below_drewn _)⟩
    · obtain rfl : k = 32 := by omega
      rw [show ((32 : Nat) : Int) = 32 from rfl]
      have hz : cmpL (a.drop 32) (b.drop 32) = 0 := by
        rw [List.drop_of_length_le (by rw [HA.out]; exact Nat.le_refl _), List.drop_of_length_le (by rw [HB.out]; exact Nat.le_refl _)]; rfl
      rw [hz] at hn
      have HN := Lib.hid hn
      clear hn hz
      go_wp2
      go_ret
      exact ⟨ret_int (by rw [HN.out]), hb⟩

theorem bit_and (x : UInt8) (j : Nat) : bits BinOp.and IntKind.u8 ((x.toNat : Int) / 2 ^ j) 1 = if x.toNat.testBit j then 1 else 0 := by
  have hx := x.toNat_lt
  have e : (x.toNat : Int) / 2 ^ j = ((x.toNat / 2 ^ j : Nat) : Int) := by simp
  have hl : x.toNat / 2 ^ j < 256 := Nat.lt_of_le_of_lt (Nat.div_le_self _ _) hx
  rw [e, show (1 : Int) = ((1 : Nat) : Int) from rfl, u8_and_nat _ _ hl (by decide), Nat.and_one_is_mod, Nat.testBit_eq_decide_div_mod_eq]
  rcases Nat.mod_two_eq_zero_or_one (x.toNat / 2 ^ j) with h | h <;> simp [h]

set_option maxRecDepth 100000 in
set_option maxHeartbeats 800000 in
theorem RNear_any (a b : List UInt8) (w : World) (ha : a.length = 32) (hb : b.length = 32) :
    Calls Tryd.prog 22 #[.agg (a.map B8).toArray, .agg (b.map B8).toArray] w fun e w' => e = .returned (.int .i64 (nearL a b : Int)) ∧ Below w.heap.size w w' := by
  have HA := Lib.hid ha
  have HB := Lib.hid hb
  clear ha hb
  go_enter Tryd.func22, Tryd.ntmps22
  go_wp2
  generalize hW1 : (w.alloc _).alloc _ = W1
  obtain ⟨hX, hY, hb1, hz1⟩ : Octs W1 w.heap.size 25 a ∧ Octs W1 (w.heap.size + 1) 25 b ∧ Below w.heap.size w W1 ∧ w.heap.size + 2 = W1.heap.size := by
    subst hW1; exact octs_pair w _ a b _ _ rfl rfl
  clear hW1 hz1
  go_loopw [5] (fun iv wr => ∃ k : Nat, k ≤ 256 ∧ iv = .int .i64 k ∧ (∀ j, j < k → bitAt a j = bitAt b j) ∧ Octs wr w.heap.size 25 a ∧ Octs wr (w.heap.size + 1) 25 b ∧ Below w.heap.size w wr)
    (fun iv _ => 256 - (intOf iv).toNat)
  case atStart => exact ⟨0, by omega, rfl, fun j hj => by omega, hX, hY, hb1⟩
  case round =>
    clear hX hY hb1
    obtain ⟨k, hk, rfl, hn, hX, hY, hb⟩ := hrel
    by_cases hlt : k < 256
    · have cx := hX.cell (j := k / 8) (by rw [HA.out]; omega)
      have cy := hY.cell (j := k / 8) (by rw [HB.out]; omega)
      obtain ⟨x, ex⟩ : ∃ x, x = a.getD (k / 8) 0 := ⟨_, rfl⟩
      obtain ⟨y, ey⟩ : ∃ x, x = b.getD (k / 8) 0 := ⟨_, rfl⟩
      rw [← ex] at cx
      rw [← ey] at cy
      unfold B8 at cx cy
      have HN := Lib.hid hn
      have HX := Lib.hid hX
      have HY := Lib.hid hY
      have nk : (0 : Int) ≤ (k : Int) / 8 := by omega
      have jk : (k : Int) / 8 < 32 := by omega
      have EX := Lib.hid ex
      have EY := Lib.hid ey
      clear ex ey hX hY hn
      by_cases hbit : bitAt a k = bitAt b k
      · have t1 : (bits BinOp.and IntKind.u8 ((x.toNat : Int) / 2 ^ (7 - k % 8)) 1 != bits BinOp.and IntKind.u8 ((y.toNat : Int) / 2 ^ (7 - k % 8)) 1) = false := by
          rw [EX.out, EY.out, bit_and, bit_and]
          unfold bitAt at hbit
          rw [hbit]; simp
        have HBIT := Lib.hid hbit
        clear hbit
        go_wp2
        go_quiet (fail)
        go_wp2
        go_roundw
        case rel =>
          refine ⟨k + 1, by omega, by go_num, fun j hj => ?_, HX.out.of_block rfl, HY.out.of_block rfl, hb.trans (below_drewn _)⟩
          rcases Nat.lt_or_ge j k with q | q
          · exact HN.out j q
          · obtain rfl : j = k := by omega
            exact HBIT.out
        case measure => simp [intOf]; omega
      · have t1 : (bits BinOp.and IntKind.u8 ((x.toNat : Int) / 2 ^ (7 - k % 8)) 1 != bits BinOp.and IntKind.u8 ((y.toNat : Int) / 2 ^ (7 - k % 8)) 1) = true := by
          rw [EX.out, EY.out, bit_and, bit_and]
          unfold bitAt at hbit
          revert hbit
          cases (a.getD (k / 8) 0).toNat.testBit (7 - k % 8) <;> cases (b.getD (k / 8) 0).toNat.testBit (7 - k % 8) <;> simp
        have HBIT := Lib.hid hbit
        clear hbit
        go_wp2
        go_quiet (fail)
        go_wp2
        go_ret
        exact ⟨ret_int (by rw [near_first a b (HA.out.trans HB.out.symm) k (by rw [HA.out]; exact hlt) HN.out HBIT.out]), hb.trans (below_drewn _)⟩
    · obtain rfl : k = 256 := by omega
      rw [show ((256 : Nat) : Int) = 256 from rfl]
      have HN := Lib.hid hn
      clear hn
      go_wp2
      go_ret
      exact ⟨ret_int (by rw [near_none a b (HA.out.trans HB.out.symm) (by rw [HA.out]; exact HN.out), HA.out]; rfl), hb⟩

end Go.Proofs.YtakdbhehacbokaaDoor
