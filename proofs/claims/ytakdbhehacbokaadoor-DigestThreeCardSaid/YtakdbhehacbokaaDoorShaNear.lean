/- The walk of digest.Near, through math/bits.LeadingZeros8. Condition: hashes of 32 bytes. -/
import Derived.Test.YtakdbhehacbokaaDoorShaCmp
namespace Go.Proofs.YtakdbhehacbokaaDoor
open Go.RowKit
set_option linter.unusedVariables false

set_option maxRecDepth 100000 in
theorem Len8_any (x : UInt8) (w : World) :
    Calls Tryd.prog 42 #[.int .u8 (x.toNat : Int)] w fun e w' => e = .returned (.int .i64 (8 - (lead8 x : Int))) ∧ w = w' := by
  have hx := x.toNat_lt
  have hx0 : (0 : Int) ≤ (x.toNat : Int) := by omega
  have hx1 : (x.toNat : Int) < 256 := by omega
  go_enter Tryd.func42, Tryd.ntmps42
  go_wp2
  go_ret
  refine ⟨ret_int ?_, rfl⟩
  rw [← getElem!_pos]
  clear hx hx0 hx1
  obtain ⟨n, rfl⟩ : ∃ n : Fin 256, x = UInt8.ofNat n.val := ⟨⟨x.toNat, x.toNat_lt⟩, by simp⟩
  revert n
  decide +kernel

set_option maxRecDepth 100000 in
theorem LeadingZeros8_any (x : UInt8) (w : World) :
    Calls Tryd.prog 31 #[.int .u8 (x.toNat : Int)] w fun e w' => e = .returned (.int .i64 (lead8 x : Int)) ∧ w = w' := by
  have hl : lead8 x ≤ 8 := by have := cpl_le (bits8 x) (bits8 0); rw [bits8_len] at this; exact this
  go_enter Tryd.func31, Tryd.ntmps31
  go_wp2_with fail
  refine (Len8_any x _).mono ?_
  rintro e w1 ⟨rfl, rfl⟩
  go_wp2
  go_ret
  exact ⟨ret_int (by omega), rfl⟩

theorem b8_xor (x y : UInt8) : bits BinOp.xor IntKind.u8 (x.toNat : Int) (y.toNat : Int) = ((x ^^^ y).toNat : Int) := by
  rw [u8_xor_nat _ _ x.toNat_lt y.toNat_lt, UInt8.toNat_xor]

set_option maxRecDepth 100000 in
set_option maxHeartbeats 800000 in
theorem Near_any (a b : List UInt8) (w : World) (ha : a.length = 32) (hb : b.length = 32) :
    Calls Tryd.prog 20 #[.agg (a.map B8).toArray, .agg (b.map B8).toArray] w fun e w' => e = .returned (.int .i64 (nearL a b : Int)) ∧ Below w.heap.size w w' := by
  have HA := Lib.hid ha
  have HB := Lib.hid hb
  clear ha hb
  go_enter Tryd.func20, Tryd.ntmps20
  go_wp2
  generalize hW1 : (w.alloc _).alloc _ = W1
  obtain ⟨hX, hY, hb1, hz1⟩ : Octs W1 w.heap.size 25 a ∧ Octs W1 (w.heap.size + 1) 25 b ∧ Below w.heap.size w W1 ∧ w.heap.size + 2 = W1.heap.size := by
    subst hW1; exact octs_pair w _ a b _ _ rfl rfl
  clear hW1 hz1
  go_loopw [7] (fun iv wr => ∃ k : Nat, k ≤ 32 ∧ iv = .int .i64 k ∧ nearL a b = 8 * k + nearL (a.drop k) (b.drop k) ∧ Octs wr w.heap.size 25 a ∧ Octs wr (w.heap.size + 1) 25 b ∧ Below w.heap.size w wr)
    (fun iv _ => 32 - (intOf iv).toNat)
  case atStart => exact ⟨0, by omega, rfl, by simp, hX, hY, hb1⟩
  case round =>
    clear hX hY hb1
    obtain ⟨k, hk, rfl, hn, hX, hY, hb⟩ := hrel
    by_cases hlt : k < 32
    · have cx := hX.cell (j := k) (by rw [HA.out]; exact hlt)
      have cy := hY.cell (j := k) (by rw [HB.out]; exact hlt)
      rw [nearL_drop a b k (by rw [HA.out]; exact hlt) (by rw [HB.out]; exact hlt)] at hn
      obtain ⟨x, ex⟩ : ∃ x, x = a.getD k 0 := ⟨_, rfl⟩
      obtain ⟨y, ey⟩ : ∃ x, x = b.getD k 0 := ⟨_, rfl⟩
      rw [← ex] at cx hn
      rw [← ey] at cy hn
      unfold B8 at cx cy
      have HX := Lib.hid hX
      have HY := Lib.hid hY
      have nk : (0 : Int) ≤ (k : Int) := by omega
      have jk : (k : Int) < 32 := by omega
      clear ex ey hX hY
      by_cases hxy : x = y
      · rw [if_pos hxy] at hn
        have HN := Lib.hid hn
        have hbx : bits BinOp.xor IntKind.u8 (x.toNat : Int) (y.toNat : Int) = 0 := by rw [b8_xor, hxy]; simp
        clear hn hxy
        go_wp2
        go_quiet (fail)
        go_wp2
        go_roundw
        case rel =>
          exact ⟨k + 1, by omega, by go_num, by rw [HN.out]; omega, HX.out.of_block rfl, HY.out.of_block rfl, hb.trans (below_drewn _)⟩
        case measure => simp [intOf]; omega
      · rw [if_neg hxy] at hn
        obtain ⟨z, hz⟩ : ∃ z, z = x ^^^ y := ⟨_, rfl⟩
        have hz0 : z ≠ 0 := by rw [hz]; exact xor_ne hxy
        have hbx : bits BinOp.xor IntKind.u8 (x.toNat : Int) (y.toNat : Int) = (z.toNat : Int) := by rw [b8_xor, hz]
        have hzn : ((z.toNat : Int) != 0) = true := by
          have : z.toNat ≠ 0 := fun q => hz0 (UInt8.toNat_inj.1 q)
          simp; omega
        rw [← hz] at hn
        have hle : lead8 z ≤ 8 := by have := cpl_le (bits8 z) (bits8 0); rw [bits8_len] at this; exact this
        have HN := Lib.hid hn
        clear hn hxy hz hz0
        go_wp2
        go_quiet (fail)
        go_wp2_with fail
        refine (LeadingZeros8_any z _).mono ?_
        rintro e w1 ⟨rfl, rfl⟩
        go_wp2
        go_ret
        refine ⟨ret_int ?_, hb.trans (below_drewn _)⟩
        rw [HN.out]
        push_cast
        omega
    · obtain rfl : k = 32 := by omega
      rw [show ((32 : Nat) : Int) = 32 from rfl]
      have hz : nearL (a.drop 32) (b.drop 32) = 0 := by
        rw [List.drop_of_length_le (by rw [HA.out]; exact Nat.le_refl _)]; rfl
      rw [hz] at hn
      have HN := Lib.hid hn
      clear hn hz
      go_wp2
      go_ret
      exact ⟨ret_int (by rw [HN.out]; rfl), hb⟩

end Go.Proofs.YtakdbhehacbokaaDoor
