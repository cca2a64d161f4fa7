/- The walk of the law's awake: it is true. Condition: the table of constants as the program lays it. -/
import Derived.Test.YtnilkdfhnmkekaaDoorMrkRefRoot
import Derived.Test.YtnilkdfhnmkekaaDoorMrkDepth
import Derived.Test.YtnilkdfhnmkekaaDoorEql
namespace Go.Proofs.YtnilkdfhnmkekaaDoor
open Go.RowKit
set_option linter.unusedVariables false

theorem guard_dig : Tryd.prog.eqGuardType Tryd.prog.depth 25 = false := by kernel_rfl
/-- Two hashes compared. -/
theorem run_eql_dig (xs ys : List UInt8) (hx : xs.length = 32) (hy : ys.length = 32) (w : World) : (binOp .eql 25 (.agg (xs.map B8).toArray) (.agg (ys.map B8).toArray)).run Tryd.prog w = .ok (.bool (decide (xs = ys))) w :=
  run_eql_octs 25 5 xs ys (by omega) (by rw [hx]; exact Tryd.underlying25) Tryd.underlying5 (by kernel_rfl) (by kernel_rfl)
theorem run_neq_dig (xs ys : List UInt8) (hx : xs.length = 32) (hy : ys.length = 32) (w : World) : (binOp .neq 25 (.agg (xs.map B8).toArray) (.agg (ys.map B8).toArray)).run Tryd.prog w = .ok (.bool (!decide (xs = ys))) w :=
  run_neq_octs 25 5 xs ys (by omega) (by rw [hx]; exact Tryd.underlying25) Tryd.underlying5 (by kernel_rfl) (by kernel_rfl)
theorem run_eql_dig_same (xs : List UInt8) (hx : xs.length = 32) (w : World) : (binOp .eql 25 (.agg (xs.map B8).toArray) (.agg (xs.map B8).toArray)).run Tryd.prog w = .ok (.bool true) w := by
  rw [run_eql_dig xs xs hx hx]; simp

theorem sum_nil0 : (sumL []).getD 0 0 = 0xe3 := by decide +kernel
theorem root_three (a b : List UInt8) : rootL [a, b, a] = nodeL (nodeL a b) a := rfl
theorem Depth_32 (w : World) : Calls Tryd.prog 16 #[.int .i64 3, .int .i64 2] w fun e w' => e = .returned (.int .i64 1) ∧ Below w.heap.size w w' := by
  have h := Depth_any 3 2 w
  rw [show depthZ 3 2 = 1 by decide +kernel] at h
  exact h

set_option maxRecDepth 100000 in
set_option maxHeartbeats 800000 in
theorem awake_any (w : World) (hK : Consts w) : Calls Tryd.prog 12 #[] w fun e w' => e = .returned (.bool true) ∧ Below w.heap.size w w' := by
  obtain ⟨a, ha⟩ : ∃ d, d = sumL [] := ⟨_, rfl⟩
  obtain ⟨b, hb⟩ : ∃ d, d = sumL [1] := ⟨_, rfl⟩
  have hal : a.length = 32 := by rw [ha]; exact sumL_len _
  have hbl : b.length = 32 := by rw [hb]; exact sumL_len _
  have h0 : B8 (a.getD 0 0) = .int .u8 227 := by rw [ha, sum_nil0]; rfl
  have HA := Lib.hid ha
  have HB := Lib.hid hb
  have H0 := Lib.hid h0
  have HAL := Lib.hid hal
  have HBL := Lib.hid hbl
  have HR := Lib.hid (root_three a b)
  clear ha hb h0 hal hbl
  go_enter Tryd.func12, Tryd.ntmps12
  go_wp2_with fail
  refine (Sum_any _ [] _ Bytes.of_nil (by simp) hK).mono ?_
  rintro e w1 ⟨rfl, hb1⟩
  rw [← HA.out]
  go_wp2_with (first
    | ((with_reducible apply wpList_load_at (ty := 25) (x := .tmp _)); rfl; rfl; rfl; assumption)
    | ((with_reducible refine wpList_store_fresh (op := ⟨none, Op.store 25 (.tmp 1) (.tmp 4), _, _, _, _⟩) (.tmp 1) (.tmp 4) (a) ?_ ?_ ?_ ?_ ?_ ?_ ?_); rfl; rfl; rfl; rfl; rfl; exact HAL.out; intro w2 ha2 _ hb2 hz2))
  have hB2 := below_next hb1 hb2
  have hone : ∀ W : World, Bytes (W.alloc (.cells #[.int .u8 1] 5)) (.slice (some ⟨W.heap.size, 0, none⟩) 1 1) [1] := fun W => Bytes.one W 1 _
  have hbn := (Below.refl w2.heap.size w2).alloc (Nat.le_refl _) (.cells #[.int .u8 1] 5)
  refine (Sum_any _ [1] _ (hone w2) (by simp) (hK.of_new (below_next hB2 hbn))).mono ?_
  rintro e w3 ⟨rfl, hb3⟩
  have hB3 := below_next (below_next hB2 hbn) hb3
  have hb3' := below_next hbn hb3
  replace ha2 := ha2.of_new hb3'
  rw [← HB.out]
  clear hone hbn hb3 hb1 hb2
  go_wp2_with (first
    | ((with_reducible apply wpList_load_at (ty := 25) (x := .tmp _)); rfl; rfl; rfl; assumption)
    | ((with_reducible refine wpList_store_fresh (op := ⟨none, Op.store 25 (.tmp 2) (.tmp 6), _, _, _, _⟩) (.tmp 2) (.tmp 6) (b) ?_ ?_ ?_ ?_ ?_ ?_ ?_); rfl; rfl; rfl; rfl; rfl; exact HBL.out; intro w4 hb4 _ hb5 hz4; replace ha2 := ha2.of_new hb5)
    | ((with_reducible refine wpList_buildDigs (op := ⟨_, Op.buildSlice 22 3 _, _, _, _, _⟩) 3 #[(0, .tmp 7), (1, .tmp 8), (2, .tmp 9)] [a, b, a] ?_ ?_ ?_ ?_ ?_ ?_ ?_ ?_); rfl; rfl; rfl; simp; simp; (intro x hx; simp at hx; rcases hx with rfl | rfl | rfl; exact HAL.out; exact HBL.out; exact HAL.out); (simp only [List.map_toArray, List.map_cons, List.map_nil]; rfl); intro w5 ho5 hb6 hs5; replace ha2 := ha2.of_new hb6; replace hb4 := hb4.of_new hb6))
  have hl5 := ho5.digs
  clear ho5
  have hB4 := below_next hB3 hb5
  clear hB3 hb5 hb3'
  have hB5 := below_next hB4 hb6
  refine (Root_any _ [a, b, a] _ hl5 (by simp) (hK.of_new hB5)).mono ?_
  rintro e w6 ⟨rfl, hb7⟩
  rw [HR.out]
  have hB6 := below_next hB5 hb7
  replace ha2 := ha2.of_new hb7
  replace hb4 := hb4.of_new hb7
  clear hb7 hB5 hb6 hl5 hB4
  go_wp2_with (first
    | ((with_reducible apply wpList_load_at (ty := 25) (x := .tmp _)); rfl; rfl; rfl; assumption)
    | ((with_reducible refine wpList_store_fresh (op := ⟨none, Op.store 25 (.tmp 3) (.tmp 11), _, _, _, _⟩) (.tmp 3) (.tmp 11) (nodeL (nodeL a b) a) ?_ ?_ ?_ ?_ ?_ ?_ ?_); rfl; rfl; rfl; rfl; rfl; exact (nodeL_len _ _); intro w7 hr7 _ hb8 hz7))
  have hB7 := below_next hB6 hb8
  replace ha2 := ha2.of_new hb8
  replace hb4 := hb4.of_new hb8
  clear hb8 hB6
  have c0 : ∀ w', Grew w7 w' → w'.cell? ⟨w1.heap.size, 0, none⟩ = some (.int .u8 227) := fun w' hw' => by
    have := (ha2.of_new hw').2 0 (by omega)
    rw [Nat.add_zero] at this
    rw [this, ← H0.out]
    simp [List.getD, List.getElem?_eq_getElem (show 0 < a.length by rw [HAL.out]; omega)]
  have heq := run_eql_dig_same (nodeL (nodeL a b) a) (nodeL_len _ _)
  have hgd := guard_dig
  simp only [Act.put]
  refine wp_region_grew (by kernel_rfl) (by kernel_rfl) ?_
  repeat (first
    | (go_big_quiet_want; (with_reducible apply quiet_load_at (ty := 25) (x := .tmp _)); rfl; rfl; assumption; go_simp; go_big_quiet_on)
    | (go_big_quiet_want; apply quiet_val; (intro w' hw'; go_simp; first | done | rfl); go_simp; go_big_quiet_on)
    | (go_big_quiet_want; apply quiet_call (f := 15); (intro w' hw'; go_simp; first | done | rfl); (intro w' hw'; exact Grew.call hw' (Node_any a b w' HAL.out HBL.out (hK.of_new (below_next hB7 hw')))); go_simp; go_big_quiet_on)
    | (go_big_quiet_want; apply quiet_call (f := 15); (intro w' hw'; go_simp; first | done | rfl); (intro w' hw'; exact Grew.call hw' (Node_any (nodeL a b) a w' (nodeL_len _ _) HAL.out (hK.of_new (below_next hB7 hw')))); go_simp; go_big_quiet_on)
    | (go_big_quiet_want; apply quiet_call (f := 16); (intro w' hw'; go_simp; first | done | rfl); (intro w' hw'; exact Grew.call hw' (Depth_32 w')); go_simp; go_big_quiet_on)
    | (go_big_quiet_skip))
  refine wpQuiet_nil ?_
  intro w9 hw9
  go_wp2
  go_ret
  exact ⟨rfl, below_next hB7 hw9⟩

end Go.Proofs.YtnilkdfhnmkekaaDoor
