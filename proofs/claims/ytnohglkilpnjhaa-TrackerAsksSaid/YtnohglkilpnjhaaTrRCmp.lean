/- The walk of the document's answer's Compare of hashes. Condition: hashes of 32 bytes. -/
import Derived.Test.YtnohglkilpnjhaaGc
import Derived.Test.YtnohglkilpnjhaaGa
import Derived.Below
import Derived.IntWalk
namespace Go.Proofs.Ytnohglkilpnjhaa
open Go.RowKit
set_option linter.unusedVariables false

set_option maxRecDepth 100000 in
set_option maxHeartbeats 800000 in
theorem RCompare_any (a b : List UInt8) (w : World) (ha : a.length = 32) (hb : b.length = 32) :
    Calls Try.prog 61 #[.agg (a.map B8).toArray, .agg (b.map B8).toArray] w fun e w' => e = .returned (.int .i64 (cmpL a b)) ∧ Below w.heap.size w w' := by
  have HA := Lib.hid ha
  have HB := Lib.hid hb
  clear ha hb
  go_enter Try.func61, Try.ntmps61
  go_wp2
  generalize hW1 : (w.alloc _).alloc _ = W1
  obtain ⟨hX, hY, hb1, hz1⟩ : Octs W1 w.heap.size 30 a ∧ Octs W1 (w.heap.size + 1) 30 b ∧ Below w.heap.size w W1 ∧ w.heap.size + 2 = W1.heap.size := by
    subst hW1; exact octs_pair w _ a b _ _ rfl rfl
  clear hW1 hz1
  go_loopw [5] (fun iv wr => ∃ k : Nat, k ≤ 32 ∧ iv = .int .i64 k ∧ cmpL a b = cmpL (a.drop k) (b.drop k) ∧ Octs wr w.heap.size 30 a ∧ Octs wr (w.heap.size + 1) 30 b ∧ Below w.heap.size w wr)
    (fun iv _ => 32 - (intOf iv).toNat)
  case atStart => exact ⟨0, by omega, rfl, by simp, hX, hY, hb1⟩
  case round =>
    clear hX hY hb1
    obtain ⟨k, hk, rfl, hn, hX, hY, hb⟩ := hrel
    by_cases hlt : k < 32
    · have cx := hX.cell (j := k) (by rw [HA.out]; exact hlt)
      have cy := hY.cell (j := k) (by rw [HB.out]; exact hlt)
      rw [cmpL_drop a b k (by rw [HA.out]; exact hlt) (by rw [HB.out]; exact hlt)] at hn
      obtain ⟨x, ex⟩ : ∃ x, x = a.getD k 0 := ⟨_, rfl⟩
      obtain ⟨y, ey⟩ : ∃ x, x = b.getD k 0 := ⟨_, rfl⟩
      rw [← ex, ← ey] at hn
      rw [← ex] at cx
      rw [← ey] at cy
      unfold B8 at cx cy
      have HX := Lib.hid hX
      have HY := Lib.hid hY
      have nk : (0 : Int) ≤ (k : Int) := by omega
      have jk : (k : Int) < 32 := by omega
      clear ex ey hX hY
      simp only [UInt8.lt_iff_toNat_lt] at hn
      rcases Nat.lt_trichotomy x.toNat y.toNat with q | q | q
      · rw [if_pos q] at hn
        have t1 : (x.toNat : Int) < (y.toNat : Int) := by omega
        have HN := Lib.hid hn
        clear hn q
        go_wp2
        go_quiet (fail)
        go_wp2
        go_ret
        exact ⟨ret_int (by rw [HN.out]), hb.trans (below_drewn _)⟩
      · rw [if_neg (by omega), if_neg (by omega)] at hn
        have t1 : ¬ (x.toNat : Int) < (y.toNat : Int) := by omega
        have t2 : ¬ (y.toNat : Int) < (x.toNat : Int) := by omega
        have HN := Lib.hid hn
        clear hn q
        go_wp2
        go_quiet (fail)
        go_wp2
        go_quiet (fail)
        go_wp2
        go_roundw
        case rel =>
          exact ⟨k + 1, by omega, by go_num, HN.out, HX.out.of_block rfl, HY.out.of_block rfl, hb.trans (below_drewn _)⟩
        case measure => simp [intOf]; omega
      · rw [if_neg (by omega), if_pos q] at hn
        have t1 : ¬ (x.toNat : Int) < (y.toNat : Int) := by omega
        have t2 : (y.toNat : Int) < (x.toNat : Int) := by omega
        have HN := Lib.hid hn
        clear hn q
        go_wp2
        go_quiet (fail)
        go_wp2
        go_quiet (fail)
        go_wp2
        go_ret
        exact ⟨ret_int (by rw [HN.out]), (hb.trans (below_drewn _)).trans (below_drewn _)⟩
    · obtain rfl : k = 32 := by omega
      rw [show ((32 : Nat) : Int) = 32 from rfl]
      have hz : cmpL (a.drop 32) (b.drop 32) = 0 := by
        rw [List.drop_of_length_le (by rw [HA.out]; exact Nat.le_refl _), List.drop_of_length_le (by rw [HB.out]; exact Nat.le_refl _)]; rfl
      rw [hz] at hn
      have HN := Lib.hid hn
      clear hn hz
      go_wp2
      go_ret
      exact ⟨ret_int (by rw [HN.out]), hb⟩


end Go.Proofs.Ytnohglkilpnjhaa
