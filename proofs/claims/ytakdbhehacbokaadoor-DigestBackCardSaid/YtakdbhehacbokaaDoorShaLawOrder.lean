/- The walk of the law DigestOrder: it answers true. Condition: the table of constants as the program lays it. -/
import Derived.Test.YtakdbhehacbokaaDoorShaCmp
import Derived.Test.YtakdbhehacbokaaDoorQuiet
import Derived.Deep.DeepCutAuto
namespace Go.Proofs.YtakdbhehacbokaaDoor
open Go.RowKit
set_option linter.unusedVariables false

/-- Three hashes in boxes of their own. -/
theorem octs_three (w : World) (t : Nat) (xs ys zs : List UInt8) (A B C : Array Value) (hA : A = (xs.map B8).toArray) (hB : B = (ys.map B8).toArray) (hC : C = (zs.map B8).toArray) :
    Octs (((w.alloc (.cells A t)).alloc (.cells B t)).alloc (.cells C t)) w.heap.size t xs ∧ Octs (((w.alloc (.cells A t)).alloc (.cells B t)).alloc (.cells C t)) (w.heap.size + 1) t ys ∧
      Octs (((w.alloc (.cells A t)).alloc (.cells B t)).alloc (.cells C t)) (w.heap.size + 2) t zs ∧ Below w.heap.size w (((w.alloc (.cells A t)).alloc (.cells B t)).alloc (.cells C t)) ∧
      w.heap.size + 3 = (((w.alloc (.cells A t)).alloc (.cells B t)).alloc (.cells C t)).heap.size := by
  obtain ⟨h1, h2, h3, h4⟩ := octs_pair w t xs ys A B hA hB
  subst hC
  refine ⟨h1.of_block (Below.heap_alloc _ _ _ h1.lt), h2.of_block (Below.heap_alloc _ _ _ h2.lt), ?_, h3.alloc (by omega) _, by rw [World.size_alloc]; omega⟩
  have := heap_alloc_new ((w.alloc (.cells A t)).alloc (.cells B t)) (.cells (zs.map B8).toArray t)
  rw [← h4] at this
  exact this

theorem cmpL_neg (a b : List UInt8) (h : a.length = b.length) : cmpL b a = -cmpL a b := by
  rw [cmpL_sign a b h, cmpL_sign b a h.symm]; split <;> split <;> first | rfl | omega
theorem cmpL_zero (a b : List UInt8) (h : a.length = b.length) : decide (a = b) = (cmpL a b == 0) := by
  rw [cmpL_sign a b h]
  by_cases e : a = b
  · subst e; simp
  · have : natL a ≠ natL b := fun q => e (natL_inj a b h q)
    rcases Nat.lt_or_ge (natL a) (natL b) with q | q
    · simp [e, q]
    · rw [if_neg (by omega), if_pos (by omega)]; simp [e]
theorem cmpL_cases (a b c : List UInt8) (h : a.length = b.length) (k : b.length = c.length) :
    (cmpL a b = 1 ∨ cmpL a b = -1 ∧ cmpL b c = 1 ∨ cmpL a b = 0 ∧ cmpL b c = 1) ∨ (cmpL a b = -1 ∧ cmpL b c = -1 ∧ cmpL a c = -1) ∨ (cmpL a b = -1 ∧ cmpL b c = 0 ∧ cmpL a c = -1) ∨ (cmpL a b = 0 ∧ cmpL b c = -1 ∧ cmpL a c = -1) ∨ (cmpL a b = 0 ∧ cmpL b c = 0 ∧ cmpL a c = 0) := by
  rw [cmpL_sign a b h, cmpL_sign b c k, cmpL_sign a c (h.trans k)]
  by_cases h1 : natL a < natL b <;> by_cases h2 : natL b < natL a <;> by_cases h3 : natL b < natL c <;> by_cases h4 : natL c < natL b <;> by_cases h5 : natL a < natL c <;> by_cases h6 : natL c < natL a <;> simp [h1, h2, h3, h4, h5, h6] <;> omega

theorem eqb_dig : ∀ (x : Int), (x == 0) = decide (x = 0) := fun x => by by_cases h : x = 0 <;> simp [h]

set_option maxRecDepth 100000 in
set_option maxHeartbeats 3200000 in
theorem DigestOrder_walk (a b c : List UInt8) (w : World) (ha : a.length = 32) (hb : b.length = 32) (hc : c.length = 32) (hK : Consts w) :
    Calls Tryd.prog 4 #[.agg (a.map B8).toArray, .agg (b.map B8).toArray, .agg (c.map B8).toArray] w fun e w' => e = .returned (.bool true) ∧ Below w.heap.size w w' := by
  have HA := Lib.hid ha
  have HB := Lib.hid hb
  have HC := Lib.hid hc
  have hcs := cmpL_cases a b c (by omega) (by omega)
  have HNEG := Lib.hid (cmpL_neg a b (by omega))
  have HEQ := Lib.hid (cmpL_zero a b (by omega))
  clear ha hb hc
  obtain ⟨x, hx⟩ : ∃ x, x = cmpL a b := ⟨_, rfl⟩
  obtain ⟨y, hy⟩ : ∃ x, x = cmpL b c := ⟨_, rfl⟩
  obtain ⟨z, hz⟩ : ∃ x, x = cmpL a c := ⟨_, rfl⟩
  rw [← hx, ← hy, ← hz] at hcs
  have HX := Lib.hid hx
  have HY := Lib.hid hy
  have HZ := Lib.hid hz
  clear hx hy hz
  have heq : ∀ W : World, (binOp .eql 25 (.agg (a.map B8).toArray) (.agg (b.map B8).toArray)).run Tryd.prog W = .ok (.bool (x == 0)) W := fun W => by
    rw [run_eql_dig a b HA.out HB.out W, HEQ.out, HX.out]
  have hgd := guard_dig
  have hl : ∀ (l : List UInt8) (g : Nat), True := fun _ _ => trivial
  clear hl
  have HE : ∀ W : World, Hid ((binOp .eql 25 (.agg (a.map B8).toArray) (.agg (b.map B8).toArray)).run Tryd.prog W = .ok (.bool (x == 0)) W) := fun W => Lib.hid (heq W)
  go_enter Tryd.func4, Tryd.ntmps4
  go_wp2_with fail
  generalize hW1 : ((w.alloc _).alloc _).alloc _ = W1
  obtain ⟨hA, hB, hC, hb1, hz1⟩ : Octs W1 w.heap.size 25 a ∧ Octs W1 (w.heap.size + 1) 25 b ∧ Octs W1 (w.heap.size + 2) 25 c ∧ Below w.heap.size w W1 ∧ w.heap.size + 3 = W1.heap.size := by
    subst hW1; exact octs_three w _ a b c _ _ _ rfl rfl rfl
  clear hW1
  refine (awake_any W1 (hK.of_new hb1)).mono ?_
  rintro e w1 ⟨rfl, hb2⟩
  have hA1 := hA.of_block (hb2.block _ (by omega))
  have hB1 := hB.of_block (hb2.block _ (by omega))
  have hC1 := hC.of_block (hb2.block _ (by omega))
  have hbA := below_next hb1 hb2
  have hsz : w.heap.size + 3 ≤ w1.heap.size := by have := hb2.size; omega
  clear hA hB hC hb1 hb2 hz1
  go_upto_region 2 with (fail)
  refine wp_region_grew_seq ?_
  (go_big_quiet_want; (with_reducible refine quiet_load_octs 25 (.tmp 3) (w.heap.size) 25 32 5 a ?_ ?_ ?_ ?_ ?_ ?_); rfl; rfl; exact hA1; exact Tryd.underlying25; (rw [HA.out]; kernel_rfl); go_simp; go_big_quiet_on)
  (go_big_quiet_want; (with_reducible refine quiet_load_octs 25 (.tmp 4) (w.heap.size + 1) 25 32 5 b ?_ ?_ ?_ ?_ ?_ ?_); rfl; rfl; exact hB1; exact Tryd.underlying25; (rw [HB.out]; kernel_rfl); go_simp; go_big_quiet_on)
  (go_big_quiet_want; apply quiet_call (f := 15); (intro w' hw'; go_simp; first | done | rfl); (intro w' hw'; exact Grew.call hw' (HX.out ▸ Compare_any a b w' HA.out HB.out)); go_simp; go_big_quiet_on)
  (go_big_quiet_want; apply quiet_val; (intro w' hw'; go_simp; first | done | rfl); go_simp; go_big_quiet_on)
  refine wpQuiet_nil ?_
  intro w2 hw2
  have hA2 := hw2.octs hA1
  have hB2 := hw2.octs hB1
  have hC2 := hw2.octs hC1
  have hbB := below_next hbA hw2
  clear hA1 hB1 hC1 hbA hw2
  go_upto_region 3 with (fail)
  refine wp_region_grew_seq ?_
  (go_big_quiet_want; (with_reducible refine quiet_load_octs 25 (.tmp 4) (w.heap.size + 1) 25 32 5 b ?_ ?_ ?_ ?_ ?_ ?_); rfl; rfl; exact hB2; exact Tryd.underlying25; (rw [HB.out]; kernel_rfl); go_simp; go_big_quiet_on)
  (go_big_quiet_want; (with_reducible refine quiet_load_octs 25 (.tmp 5) (w.heap.size + 2) 25 32 5 c ?_ ?_ ?_ ?_ ?_ ?_); rfl; rfl; exact hC2; exact Tryd.underlying25; (rw [HC.out]; kernel_rfl); go_simp; go_big_quiet_on)
  (go_big_quiet_want; apply quiet_call (f := 15); (intro w' hw'; go_simp; first | done | rfl); (intro w' hw'; exact Grew.call hw' (HY.out ▸ Compare_any b c w' HB.out HC.out)); go_simp; go_big_quiet_on)
  (go_big_quiet_want; apply quiet_val; (intro w' hw'; go_simp; first | done | rfl); go_simp; go_big_quiet_on)
  refine wpQuiet_nil ?_
  intro w3 hw3
  have hA3 := hw3.octs hA2
  have hB3 := hw3.octs hB2
  have hC3 := hw3.octs hC2
  have hbC := below_next hbB hw3
  clear hA2 hB2 hC2 hbB hw3
  go_upto_region 4 with (fail)
  refine wp_region_grew_seq ?_
  (go_big_quiet_want; (with_reducible refine quiet_load_octs 25 (.tmp 3) (w.heap.size) 25 32 5 a ?_ ?_ ?_ ?_ ?_ ?_); rfl; rfl; exact hA3; exact Tryd.underlying25; (rw [HA.out]; kernel_rfl); go_simp; go_big_quiet_on)
  (go_big_quiet_want; (with_reducible refine quiet_load_octs 25 (.tmp 5) (w.heap.size + 2) 25 32 5 c ?_ ?_ ?_ ?_ ?_ ?_); rfl; rfl; exact hC3; exact Tryd.underlying25; (rw [HC.out]; kernel_rfl); go_simp; go_big_quiet_on)
  (go_big_quiet_want; apply quiet_call (f := 15); (intro w' hw'; go_simp; first | done | rfl); (intro w' hw'; exact Grew.call hw' (HZ.out ▸ Compare_any a c w' HA.out HC.out)); go_simp; go_big_quiet_on)
  (go_big_quiet_want; apply quiet_val; (intro w' hw'; go_simp; first | done | rfl); go_simp; go_big_quiet_on)
  refine wpQuiet_nil ?_
  intro w4 hw4
  have hA4 := hw4.octs hA3
  have hB4 := hw4.octs hB3
  have hC4 := hw4.octs hC3
  have hbD := below_next hbC hw4
  clear hA3 hB3 hC3 hbC hw4
  have q1 : IntKind.i64.wrap 1 = 1 := by decide
  have q2 : IntKind.i64.wrap (-1) = -1 := by decide
  have q3 : IntKind.i64.wrap 0 = 0 := by decide
  rcases hcs with (rfl | ⟨rfl, rfl⟩ | ⟨rfl, rfl⟩) | ⟨rfl, rfl, rfl⟩ | ⟨rfl, rfl, rfl⟩ | ⟨rfl, rfl, rfl⟩ | ⟨rfl, rfl, rfl⟩
  all_goals
    go_upto_region 5 with (fail)
    refine wp_region_grew_seq ?_
    (go_big_quiet_want; apply quiet_val; (intro w' hw'; go_simp; first | done | rfl); go_simp; go_big_quiet_on)
    (go_big_quiet_want; apply quiet_val; (intro w' hw'; go_simp; first | done | rfl); go_simp; go_big_quiet_on)
    (go_big_quiet_want; apply quiet_val; (intro w' hw'; go_simp; first | done | rfl); go_simp; go_big_quiet_on)
    (go_big_quiet_want; apply quiet_val; (intro w' hw'; go_simp; first | done | rfl); go_simp; go_big_quiet_on)
    (go_big_quiet_want; (with_reducible refine quiet_load_octs 25 (.tmp 4) (w.heap.size + 1) 25 32 5 b ?_ ?_ ?_ ?_ ?_ ?_); rfl; rfl; exact hB4; exact Tryd.underlying25; (rw [HB.out]; kernel_rfl); go_simp; go_big_quiet_on)
    (go_big_quiet_want; (with_reducible refine quiet_load_octs 25 (.tmp 3) (w.heap.size) 25 32 5 a ?_ ?_ ?_ ?_ ?_ ?_); rfl; rfl; exact hA4; exact Tryd.underlying25; (rw [HA.out]; kernel_rfl); go_simp; go_big_quiet_on)
    (go_big_quiet_want; apply quiet_call (f := 15); (intro w' hw'; go_simp; first | done | rfl); (intro w' hw'; exact Grew.call hw' (HX.out ▸ HNEG.out ▸ Compare_any b a w' HB.out HA.out)); go_simp; go_big_quiet_on)
    (go_big_quiet_want; apply quiet_val; (intro w' hw'; go_simp; first | done | rfl); go_simp; go_big_quiet_on)
    (go_big_quiet_want; apply quiet_val; (intro w' hw'; go_simp; first | done | rfl); go_simp; go_big_quiet_on)
    (go_big_quiet_want; apply quiet_val; (intro w' hw'; go_simp; first | done | rfl); go_simp; go_big_quiet_on)
    (go_big_quiet_want; apply quiet_val; (intro w' hw'; go_simp; first | done | rfl); go_simp; go_big_quiet_on)
    (go_big_quiet_want; apply quiet_val; (intro w' hw'; go_simp; first | done | rfl); go_simp; go_big_quiet_on)
    (go_big_quiet_want; apply quiet_val; (intro w' hw'; go_simp; first | done | rfl); go_simp; go_big_quiet_on)
    (go_big_quiet_want; (with_reducible refine quiet_load_octs 25 (.tmp 3) (w.heap.size) 25 32 5 a ?_ ?_ ?_ ?_ ?_ ?_); rfl; rfl; exact hA4; exact Tryd.underlying25; (rw [HA.out]; kernel_rfl); go_simp; go_big_quiet_on)
    (go_big_quiet_want; (with_reducible refine quiet_load_octs 25 (.tmp 4) (w.heap.size + 1) 25 32 5 b ?_ ?_ ?_ ?_ ?_ ?_); rfl; rfl; exact hB4; exact Tryd.underlying25; (rw [HB.out]; kernel_rfl); go_simp; go_big_quiet_on)
    (go_big_quiet_want; apply quiet_val; (intro w' hw'; go_simp; first | done | rfl); go_simp; go_big_quiet_on)
    (go_big_quiet_want; apply quiet_val; (intro w' hw'; go_simp; first | done | rfl); go_simp; go_big_quiet_on)
    (go_big_quiet_want; apply quiet_val; (intro w' hw'; go_simp; first | done | rfl); go_simp; go_big_quiet_on)
    refine wpQuiet_nil ?_
    intro w5 hw5
    go_wp2
    go_ret
    exact ⟨rfl, below_next hbD hw5⟩

end Go.Proofs.YtakdbhehacbokaaDoor
