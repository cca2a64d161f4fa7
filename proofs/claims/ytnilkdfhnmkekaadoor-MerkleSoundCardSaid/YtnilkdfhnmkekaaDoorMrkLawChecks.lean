/- The walk of the law MerkleChecks: it answers true. Condition: the table of constants as the program lays it. -/
import Derived.Test.YtnilkdfhnmkekaaDoorMrkRefCheck
namespace Go.Proofs.YtnilkdfhnmkekaaDoor
open Go.RowKit
set_option linter.unusedVariables false
set_option linter.unusedSimpArgs false

theorem pair_at {w : World} {g t : Nat} {x y : List UInt8} (h : w.heap[g]? = some (.cells ((x ++ y).map B8).toArray t (0, 0))) (hx : x.length = 32) (hy : y.length = 32) : DigAt w g 0 x ∧ DigAt w g 32 y := by
  refine ⟨⟨hx, fun j hj => ?_⟩, hy, fun j hj => ?_⟩
  · simp only [World.cell?, h, Nat.zero_add]
    simp [List.getElem?_append_left (show j < (x.map B8).length by simp [hx, hj])]
  · simp only [World.cell?, h]
    simp [List.getElem?_append_right (show (x.map B8).length ≤ 32 + j by simp [hx]), hx]

set_option maxRecDepth 100000 in
set_option maxHeartbeats 3200000 in
theorem MerkleChecks_walk (x0 x1 : List UInt8) (n i : Int) (v : Value) (proof : List (List UInt8)) (w : World) (h0 : x0.length = 32) (h1 : x1.length = 32) (n1 : -9223372036854775808 ≤ n) (n2 : n ≤ 9223372036854775807) (i1 : -9223372036854775808 ≤ i) (i2 : i ≤ 9223372036854775807)
    (hp : Digs w v proof) (hK : Consts w) :
    Calls Tryd.prog 9 #[.agg ((x0 ++ x1).map B8).toArray, .agg #[.int .i64 n, .int .i64 i], v] w fun e w' => e = .returned (.bool true) ∧ Below w.heap.size w w' := by
  obtain ⟨va, vc, hv⟩ := hp.len
  subst hv
  have hle := hp.le
  unfold maxLen at hle
  have hgd := guard_dig
  obtain ⟨X, hX⟩ : ∃ X, X = ((x0 ++ x1).map B8).toArray := ⟨_, rfl⟩
  rw [← hX]
  obtain ⟨W1, hW1⟩ : ∃ W1, W1 = (w.alloc (.cells X 41)).alloc (.cells #[.int .i64 n, .int .i64 i] 42) := ⟨_, rfl⟩
  have hbx : (DigAt W1 w.heap.size 0 x0 ∧ DigAt W1 w.heap.size 32 x1) ∧ Below w.heap.size w W1 ∧ W1.heap[w.heap.size + 1]? = some (.cells #[.int .i64 n, .int .i64 i] 42 (0, 0)) := by
    subst hW1
    refine ⟨pair_at (t := 41) ?_ h0 h1, ((Below.refl _ w).alloc (Nat.le_refl _) _).alloc (by simp) _, ?_⟩
    · rw [← hX]; exact (Below.heap_alloc _ _ _ (by simp)).trans (heap_alloc_new _ _)
    · have := heap_alloc_new (w.alloc (.cells X 41)) (.cells #[.int .i64 n, .int .i64 i] 42)
      rwa [World.size_alloc] at this
  have HW := Lib.hid hW1
  clear hX hW1
  go_enter Tryd.func9, Tryd.ntmps9
  go_wp2_with fail
  rw [← HW.out]
  obtain ⟨⟨d0, d1⟩, hb1, hc⟩ := hbx
  clear HW
  refine (awake_any W1 (hK.of_new hb1)).mono ?_
  rintro e w2 ⟨rfl, hb2⟩
  replace d0 := d0.of_new hb2
  replace d1 := d1.of_new hb2
  have hlt : w.heap.size + 1 < W1.heap.size := (Array.getElem?_eq_some_iff.1 hc).1
  replace hc := (hb2.block _ hlt).trans hc
  have hB2 := below_next' hb1 hb2 hb1.size
  have hp2 := hp.of_new hB2
  have hs2 := hb2.size
  clear hb1 hb2
  by_cases hs : proof.length ≤ 1000
  case neg =>
    have hs' : (1000 : Int) < (proof.length : Int) := by omega
    go_wp2
    go_ret
    exact ⟨rfl, hB2⟩
  have hs' : ¬ (1000 : Int) < (proof.length : Int) := by omega
  have k0 : w2.cell? ⟨w.heap.size + 1, 0, none⟩ = some (.int .i64 n) := by simp [World.cell?, hc]
  have k1 : w2.cell? ⟨w.heap.size + 1, 1, none⟩ = some (.int .i64 i) := by simp [World.cell?, hc]
  go_wp2_with ((with_reducible apply wpList_load_at (ty := 25) (x := .tmp _)); rfl; rfl; rfl; assumption)
  refine (Check_any x0 x1 n i _ proof _ h0 h1 hp2 (hK.of_new hB2)).mono ?_
  rintro e w3 ⟨rfl, hb3⟩
  replace d0 := d0.of_new hb3
  replace d1 := d1.of_new hb3
  replace hc := (hb3.block _ (by omega)).trans hc
  have hB3 := below_next' hB2 hb3 hB2.size
  have hp3 := hp.of_new hB3
  have l0 : w3.cell? ⟨w.heap.size + 1, 0, none⟩ = some (.int .i64 n) := by simp [World.cell?, hc]
  have l1 : w3.cell? ⟨w.heap.size + 1, 1, none⟩ = some (.int .i64 i) := by simp [World.cell?, hc]
  clear hb3 k0 k1
  go_wp2_with ((with_reducible apply wpList_load_at (ty := 25) (x := .tmp _)); rfl; rfl; rfl; assumption)
  refine (RCheck_any x0 x1 n i _ proof _ h0 h1 hp3 n1 n2 i1 i2).mono ?_
  rintro e w4 ⟨rfl, hb4⟩
  have hB4 := below_next' hB3 hb4 hB3.size
  generalize checkL x0 n i x1 proof = q at *
  go_wp2
  go_ret
  exact ⟨rfl, hB4⟩

end Go.Proofs.YtnilkdfhnmkekaaDoor
