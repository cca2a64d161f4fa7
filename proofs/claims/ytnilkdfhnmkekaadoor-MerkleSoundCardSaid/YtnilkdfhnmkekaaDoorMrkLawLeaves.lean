/- The walks of the laws MerkleLeaves and MerkleRoots: they answer true. Condition: the table of constants as the program lays it. -/
import Derived.Test.YtnilkdfhnmkekaaDoorMrkAwake
namespace Go.Proofs.YtnilkdfhnmkekaaDoor
open Go.RowKit
set_option linter.unusedVariables false

theorem boxes_two (w : World) (x y : List UInt8) (hx : x.length = 32) (hy : y.length = 32) : DigAt ((w.alloc (.cells (x.map B8).toArray 25)).alloc (.cells (y.map B8).toArray 25)) w.heap.size 0 x ∧ DigAt ((w.alloc (.cells (x.map B8).toArray 25)).alloc (.cells (y.map B8).toArray 25)) (w.heap.size + 1) 0 y ∧ Below w.heap.size w ((w.alloc (.cells (x.map B8).toArray 25)).alloc (.cells (y.map B8).toArray 25)) := by
  refine ⟨Octs.digAt (t := 25) ((Below.heap_alloc _ _ _ (by simp)).trans (heap_alloc_new w _)) hx, Octs.digAt (t := 25) ?_ hy, ((Below.refl _ w).alloc (Nat.le_refl _) _).alloc (by simp) _⟩
  have := heap_alloc_new (w.alloc (.cells (x.map B8).toArray 25)) (.cells (y.map B8).toArray 25)
  rwa [World.size_alloc] at this

theorem rootL_len {l : List (List UInt8)} (h : Dig32 l) : (rootL l).length = 32 := by
  obtain ⟨n, hn⟩ : ∃ n, l.length ≤ n := ⟨_, Nat.le_refl _⟩
  induction n generalizing l with
  | zero => rw [rootL_none (by omega)]; exact noneL_len
  | succ n ih =>
    by_cases h0 : l.length = 0
    · rw [rootL_none h0]; exact noneL_len
    by_cases h1 : l.length = 1
    · rw [rootL_one h1]; exact h.getD (by omega)
    · rw [rootL_step (by omega)]
      exact ih (aboveL_32 l h) (by rw [aboveL_len]; omega)

set_option maxRecDepth 100000 in
set_option maxHeartbeats 1600000 in
theorem MerkleLeaves_walk (v : Value) (l x y : List UInt8) (w : World) (hl : Bytes w v l) (hx : x.length = 32) (hy : y.length = 32) (hK : Consts w) :
    Calls Tryd.prog 6 #[v, .agg (x.map B8).toArray, .agg (y.map B8).toArray] w fun e w' => e = .returned (.bool true) ∧ Below w.heap.size w w' := by
  have hle := hl.le
  obtain ⟨a, cp, hv⟩ := hl.len
  subst hv
  have H1 := Lib.hid (leafL_len l)
  have H2 := Lib.hid (nodeL_len x y)
  have heq1 := run_eql_dig_same (leafL l) (leafL_len l)
  have heq2 := run_eql_dig_same (nodeL x y) (nodeL_len x y)
  have hgd := guard_dig
  have HX := Lib.hid hx
  have HY := Lib.hid hy
  have hbox := boxes_two w x y hx hy
  clear hx hy
  go_enter Tryd.func6, Tryd.ntmps6
  go_wp2_with fail
  generalize hW1 : (w.alloc _).alloc _ = w1 at *
  obtain ⟨hx1, hy1, hb1⟩ := hbox
  have hl1 := hl.of_new hb1
  clear hW1 hl
  refine (awake_any w1 (hK.of_new hb1)).mono ?_
  rintro e w2 ⟨rfl, hb2⟩
  replace hx1 := hx1.of_new hb2
  replace hy1 := hy1.of_new hb2
  replace hl1 := hl1.of_new hb2
  have hB2 := below_next hb1 hb2
  clear hb1 hb2
  by_cases hs : l.length ≤ 50000
  · have hs' : ¬ (50000 : Int) < (l.length : Int) := by omega
    go_wp2
    refine wp_region_grew (by kernel_rfl) (by kernel_rfl) ?_
    repeat (first
      | (go_big_quiet_want; (with_reducible apply quiet_load_at (ty := 25) (x := .tmp _)); rfl; rfl; assumption; go_simp; go_big_quiet_on)
      | (go_big_quiet_want; apply quiet_val; (intro w' hw'; go_simp; first | done | rfl); go_simp; go_big_quiet_on)
      | (go_big_quiet_want; apply quiet_call (f := 17); (intro w' hw'; go_simp; first | done | rfl); (intro w' hw'; exact Grew.call hw' (Leaf_any _ l w' (hw'.bytes hl1) (by omega) (hK.of_new (below_next hB2 hw')))); go_simp; go_big_quiet_on)
      | (go_big_quiet_want; apply quiet_call (f := 18); (intro w' hw'; go_simp; first | done | rfl); (intro w' hw'; exact Grew.call hw' (RLeaf_any _ l w' (hw'.bytes hl1) (by omega))); go_simp; go_big_quiet_on)
      | (go_big_quiet_want; apply quiet_call (f := 15); (intro w' hw'; go_simp; first | done | rfl); (intro w' hw'; exact Grew.call hw' (Node_any x y w' HX.out HY.out (hK.of_new (below_next hB2 hw')))); go_simp; go_big_quiet_on)
      | (go_big_quiet_want; apply quiet_call (f := 19); (intro w' hw'; go_simp; first | done | rfl); (intro w' hw'; exact Grew.call hw' (RNode_any x y w' HX.out HY.out)); go_simp; go_big_quiet_on)
      | (go_big_quiet_skip))
    refine wpQuiet_nil ?_
    intro w9 hw9
    go_wp2
    go_ret
    exact ⟨rfl, below_next hB2 hw9⟩
  · have hs' : (50000 : Int) < (l.length : Int) := by omega
    go_wp2
    go_ret
    exact ⟨rfl, hB2⟩

set_option maxRecDepth 100000 in
set_option maxHeartbeats 1600000 in
theorem MerkleRoots_walk (v : Value) (l : List (List UInt8)) (w : World) (hl : Digs w v l) (hK : Consts w) :
    Calls Tryd.prog 3 #[v] w fun e w' => e = .returned (.bool true) ∧ Below w.heap.size w w' := by
  have hle := hl.le
  unfold maxLen at hle
  obtain ⟨a, cp, hv⟩ := hl.len
  subst hv
  have hgd := guard_dig
  go_enter Tryd.func3, Tryd.ntmps3
  go_wp2_with fail
  refine (awake_any w hK).mono ?_
  rintro e w2 ⟨rfl, hb2⟩
  replace hl := hl.of_new hb2
  by_cases hs : l.length ≤ 1100
  · have hs' : ¬ (1100 : Int) < (l.length : Int) := by omega
    have hrl : (rootL l).length = 32 := rootL_len hl.1
    have heq1 := run_eql_dig_same (rootL l) hrl
    clear hrl
    go_wp2_with fail
    refine (Root_any _ l _ hl (by omega) (hK.of_new hb2)).mono ?_
    rintro e w3 ⟨rfl, hb3⟩
    replace hl := hl.of_new hb3
    go_wp2_with fail
    refine (RRoot_any _ l _ hl (by omega)).mono ?_
    rintro e w4 ⟨rfl, hb4⟩
    go_wp2
    go_ret
    exact ⟨rfl, below_next (below_next hb2 hb3) hb4⟩
  · have hs' : (1100 : Int) < (l.length : Int) := by omega
    go_wp2
    go_ret
    exact ⟨rfl, hb2⟩

end Go.Proofs.YtnilkdfhnmkekaaDoor
