/- The walk of the law DigestThree: it answers true. Condition: the table of constants as the program lays it. -/
import Derived.Test.YtakdbhehacbokaaDoorShaNear
import Derived.Test.YtakdbhehacbokaaDoorShaLawOrder
namespace Go.Proofs.YtakdbhehacbokaaDoor
open Go.RowKit
set_option linter.unusedVariables false

theorem nearL_full (a b : List UInt8) (ha : a.length = 32) (hb : b.length = 32) : decide (a = b) = ((nearL a b : Int) == 256) := by
  have h := nearL_eq a b (by omega)
  rw [ha] at h
  rw [Bool.eq_iff_iff]
  simp only [decide_eq_true_eq, beq_iff_eq]
  rw [← h]; omega

theorem near_cases (x y z : Nat) (h1 : min x y ≤ z) (h2 : min y z ≤ x) (h3 : min x z ≤ y) : (x = y ∧ x = z) ∨ (x = y ∧ x < z) ∨ (x = z ∧ x < y) ∨ (y = z ∧ y < x) := by omega

set_option maxRecDepth 100000 in
set_option maxHeartbeats 3200000 in
theorem DigestThree_walk (a b c : List UInt8) (w : World) (ha : a.length = 32) (hb : b.length = 32) (hc : c.length = 32) (hK : Consts w) :
    Calls Tryd.prog 8 #[.agg (a.map B8).toArray, .agg (b.map B8).toArray, .agg (c.map B8).toArray] w fun e w' => e = .returned (.bool true) ∧ Below w.heap.size w w' := by
  have HA := Lib.hid ha
  have HB := Lib.hid hb
  have HC := Lib.hid hc
  have hcs := near_cases (nearL a b) (nearL b c) (nearL a c) (nearL_three a b c (by omega) (by omega)) (by have := nearL_three b c a (by omega) (by omega); rw [nearL_comm c a (by omega), nearL_comm b a (by omega)] at this; exact this) (by have := nearL_three b a c (by omega) (by omega); rw [nearL_comm b a (by omega)] at this; exact this)
  have HCOM := Lib.hid (nearL_comm b a (by omega))
  have HEQ := Lib.hid (nearL_full a b ha hb)
  have hle : nearL a b ≤ 256 := by have := nearL_le a b (by omega); omega
  clear ha hb hc
  obtain ⟨x, hx⟩ : ∃ x, x = nearL a b := ⟨_, rfl⟩
  obtain ⟨y, hy⟩ : ∃ x, x = nearL b c := ⟨_, rfl⟩
  obtain ⟨z, hz⟩ : ∃ x, x = nearL a c := ⟨_, rfl⟩
  rw [← hx] at hle
  rw [← hx, ← hy, ← hz] at hcs
  have HX := Lib.hid hx
  have HY := Lib.hid hy
  have HZ := Lib.hid hz
  have heq : ∀ W : World, (binOp .eql 25 (.agg (a.map B8).toArray) (.agg (b.map B8).toArray)).run Tryd.prog W = .ok (.bool ((x : Int) == 256)) W := fun W => by
    rw [run_eql_dig a b HA.out HB.out W, HEQ.out, HX.out]
  clear hx hy hz
  have hgd := guard_dig
  go_enter Tryd.func8, Tryd.ntmps8
  go_wp2_with fail
  generalize hW1 : ((w.alloc _).alloc _).alloc _ = W1
  obtain ⟨hA, hB, hC, hb1, hz1⟩ : Octs W1 w.heap.size 25 a ∧ Octs W1 (w.heap.size + 1) 25 b ∧ Octs W1 (w.heap.size + 2) 25 c ∧ Below w.heap.size w W1 ∧ w.heap.size + 3 = W1.heap.size := by
    subst hW1; exact octs_three w _ a b c _ _ _ rfl rfl rfl
  clear hW1
  refine (awake_any W1 (hK.of_new hb1)).mono ?_
  rintro e w1 ⟨rfl, hb2⟩
  have hA1 := hA.of_block (hb2.block _ (by omega))
  have hB1 := hB.of_block (hb2.block _ (by omega))
  have hC1 := hC.of_block (hb2.block _ (by omega))
  have hbA := below_next hb1 hb2
  clear hA hB hC hb1 hb2 hz1
  go_upto_region 2 with (fail)
  refine wp_region_grew_seq ?_
  (go_big_quiet_want; (with_reducible refine quiet_load_octs 25 (.tmp 3) (w.heap.size) 25 32 5 a ?_ ?_ ?_ ?_ ?_ ?_); rfl; rfl; exact hA1; exact Tryd.underlying25; (rw [HA.out]; kernel_rfl); go_simp; go_big_quiet_on)
  (go_big_quiet_want; (with_reducible refine quiet_load_octs 25 (.tmp 4) (w.heap.size + 1) 25 32 5 b ?_ ?_ ?_ ?_ ?_ ?_); rfl; rfl; exact hB1; exact Tryd.underlying25; (rw [HB.out]; kernel_rfl); go_simp; go_big_quiet_on)
  (go_big_quiet_want; apply quiet_call (f := 20); (intro w' hw'; go_simp; first | done | rfl); (intro w' hw'; exact Grew.call hw' (HX.out ▸ Near_any a b w' HA.out HB.out)); go_simp; go_big_quiet_on)
  (go_big_quiet_want; apply quiet_val; (intro w' hw'; go_simp; first | done | rfl); go_simp; go_big_quiet_on)
  refine wpQuiet_nil ?_
  intro w2 hw2
  have hA2 := hw2.octs hA1
  have hB2 := hw2.octs hB1
  have hC2 := hw2.octs hC1
  have hbB := below_next hbA hw2
  clear hA1 hB1 hC1 hbA hw2
  go_upto_region 3 with (fail)
  refine wp_region_grew_seq ?_
  (go_big_quiet_want; (with_reducible refine quiet_load_octs 25 (.tmp 4) (w.heap.size + 1) 25 32 5 b ?_ ?_ ?_ ?_ ?_ ?_); rfl; rfl; exact hB2; exact Tryd.underlying25; (rw [HB.out]; kernel_rfl); go_simp; go_big_quiet_on)
  (go_big_quiet_want; (with_reducible refine quiet_load_octs 25 (.tmp 5) (w.heap.size + 2) 25 32 5 c ?_ ?_ ?_ ?_ ?_ ?_); rfl; rfl; exact hC2; exact Tryd.underlying25; (rw [HC.out]; kernel_rfl); go_simp; go_big_quiet_on)
  (go_big_quiet_want; apply quiet_call (f := 20); (intro w' hw'; go_simp; first | done | rfl); (intro w' hw'; exact Grew.call hw' (HY.out ▸ Near_any b c w' HB.out HC.out)); go_simp; go_big_quiet_on)
  (go_big_quiet_want; apply quiet_val; (intro w' hw'; go_simp; first | done | rfl); go_simp; go_big_quiet_on)
  refine wpQuiet_nil ?_
  intro w3 hw3
  have hA3 := hw3.octs hA2
  have hB3 := hw3.octs hB2
  have hC3 := hw3.octs hC2
  have hbC := below_next hbB hw3
  clear hA2 hB2 hC2 hbB hw3
  go_upto_region 4 with (fail)
  refine wp_region_grew_seq ?_
  (go_big_quiet_want; (with_reducible refine quiet_load_octs 25 (.tmp 3) (w.heap.size) 25 32 5 a ?_ ?_ ?_ ?_ ?_ ?_); rfl; rfl; exact hA3; exact Tryd.underlying25; (rw [HA.out]; kernel_rfl); go_simp; go_big_quiet_on)
  (go_big_quiet_want; (with_reducible refine quiet_load_octs 25 (.tmp 5) (w.heap.size + 2) 25 32 5 c ?_ ?_ ?_ ?_ ?_ ?_); rfl; rfl; exact hC3; exact Tryd.underlying25; (rw [HC.out]; kernel_rfl); go_simp; go_big_quiet_on)
  (go_big_quiet_want; apply quiet_call (f := 20); (intro w' hw'; go_simp; first | done | rfl); (intro w' hw'; exact Grew.call hw' (HZ.out ▸ Near_any a c w' HA.out HC.out)); go_simp; go_big_quiet_on)
  (go_big_quiet_want; apply quiet_val; (intro w' hw'; go_simp; first | done | rfl); go_simp; go_big_quiet_on)
  refine wpQuiet_nil ?_
  intro w4 hw4
  have hA4 := hw4.octs hA3
  have hB4 := hw4.octs hB3
  have hC4 := hw4.octs hC3
  have hbD := below_next hbC hw4
  clear hA3 hB3 hC3 hbC hw4
  have x0 : (0 : Int) ≤ (x : Int) := by omega
  have x1 : (x : Int) ≤ 256 := by omega
  rcases hcs with ⟨rfl, rfl⟩ | ⟨rfl, hlt⟩ | ⟨rfl, hlt⟩ | ⟨rfl, hlt⟩
  all_goals
    go_upto_region 13 with (fail)
    refine wp_region_grew_seq ?_
    (go_big_quiet_want; apply quiet_val; (intro w' hw'; go_simp; first | done | rfl); go_simp; go_big_quiet_on)
    (go_big_quiet_want; apply quiet_val; (intro w' hw'; go_simp; first | done | rfl); go_simp; go_big_quiet_on)
    (go_big_quiet_want; apply quiet_val; (intro w' hw'; go_simp; first | done | rfl); go_simp; go_big_quiet_on)
    (go_big_quiet_want; apply quiet_val; (intro w' hw'; go_simp; first | done | rfl); go_simp; go_big_quiet_on)
    (go_big_quiet_want; apply quiet_val; (intro w' hw'; go_simp; first | done | rfl); go_simp; go_big_quiet_on)
    (go_big_quiet_want; apply quiet_val; (intro w' hw'; go_simp; first | done | rfl); go_simp; go_big_quiet_on)
    (go_big_quiet_want; (with_reducible refine quiet_load_octs 25 (.tmp 4) (w.heap.size + 1) 25 32 5 b ?_ ?_ ?_ ?_ ?_ ?_); rfl; rfl; exact hB4; exact Tryd.underlying25; (rw [HB.out]; kernel_rfl); go_simp; go_big_quiet_on)
    (go_big_quiet_want; (with_reducible refine quiet_load_octs 25 (.tmp 3) (w.heap.size) 25 32 5 a ?_ ?_ ?_ ?_ ?_ ?_); rfl; rfl; exact hA4; exact Tryd.underlying25; (rw [HA.out]; kernel_rfl); go_simp; go_big_quiet_on)
    (go_big_quiet_want; apply quiet_call (f := 20); (intro w' hw'; go_simp; first | done | rfl); (intro w' hw'; exact Grew.call hw' (HX.out ▸ HCOM.out ▸ Near_any b a w' HB.out HA.out)); go_simp; go_big_quiet_on)
    (go_big_quiet_want; apply quiet_val; (intro w' hw'; go_simp; first | done | rfl); go_simp; go_big_quiet_on)
    (go_big_quiet_want; apply quiet_val; (intro w' hw'; go_simp; first | done | rfl); go_simp; go_big_quiet_on)
    (go_big_quiet_want; apply quiet_val; (intro w' hw'; go_simp; first | done | rfl); go_simp; go_big_quiet_on)
    (go_big_quiet_want; apply quiet_val; (intro w' hw'; go_simp; first | done | rfl); go_simp; go_big_quiet_on)
    (go_big_quiet_want; apply quiet_val; (intro w' hw'; go_simp; first | done | rfl); go_simp; go_big_quiet_on)
    (go_big_quiet_want; apply quiet_val; (intro w' hw'; go_simp; first | done | rfl); go_simp; go_big_quiet_on)
    (go_big_quiet_want; (with_reducible refine quiet_load_octs 25 (.tmp 3) (w.heap.size) 25 32 5 a ?_ ?_ ?_ ?_ ?_ ?_); rfl; rfl; exact hA4; exact Tryd.underlying25; (rw [HA.out]; kernel_rfl); go_simp; go_big_quiet_on)
    (go_big_quiet_want; (with_reducible refine quiet_load_octs 25 (.tmp 4) (w.heap.size + 1) 25 32 5 b ?_ ?_ ?_ ?_ ?_ ?_); rfl; rfl; exact hB4; exact Tryd.underlying25; (rw [HB.out]; kernel_rfl); go_simp; go_big_quiet_on)
    (go_big_quiet_want; apply quiet_val; (intro w' hw'; go_simp; first | done | rfl); go_simp; go_big_quiet_on)
    (go_big_quiet_want; apply quiet_val; (intro w' hw'; go_simp; first | done | rfl); go_simp; go_big_quiet_on)
    (go_big_quiet_want; apply quiet_val; (intro w' hw'; go_simp; first | done | rfl); go_simp; go_big_quiet_on)
    (go_big_quiet_want; apply quiet_val; (intro w' hw'; go_simp; first | done | rfl); go_simp; go_big_quiet_on)
    (go_big_quiet_want; apply quiet_val; (intro w' hw'; go_simp; first | done | rfl); go_simp; go_big_quiet_on)
    (go_big_quiet_want; apply quiet_val; (intro w' hw'; go_simp; first | done | rfl); go_simp; go_big_quiet_on)
    (go_big_quiet_want; apply quiet_val; (intro w' hw'; go_simp; first | done | rfl); go_simp; go_big_quiet_on)
    (go_big_quiet_want; apply quiet_val; (intro w' hw'; go_simp; first | done | rfl); go_simp; go_big_quiet_on)
    (go_big_quiet_want; apply quiet_val; (intro w' hw'; go_simp; first | done | rfl); go_simp; go_big_quiet_on)
    (go_big_quiet_want; apply quiet_val; (intro w' hw'; go_simp; first | done | rfl); go_simp; go_big_quiet_on)
    (go_big_quiet_want; apply quiet_val; (intro w' hw'; go_simp; first | done | rfl); go_simp; go_big_quiet_on)
    (go_big_quiet_want; apply quiet_val; (intro w' hw'; go_simp; first | done | rfl); go_simp; go_big_quiet_on)
    refine wpQuiet_nil ?_
    intro w5 hw5
    go_wp2
    go_ret
    exact ⟨rfl, below_next hbD hw5⟩

end Go.Proofs.YtakdbhehacbokaaDoor
