/- The walk of the law ManifestBlobs: it answers true. Condition: the table of constants as the program lays it. -/
import Derived.Test.YtnomekfemadpeaaDoorMfAwake
import Derived.Test.YtnomekfemadpeaaDoorMrkRefProof
namespace Go.Proofs.YtnomekfemadpeaaDoor
open Go.RowKit
set_option linter.unusedVariables false
set_option linter.unusedSimpArgs false
set_option maxRecDepth 100000

set_option maxHeartbeats 3200000 in
theorem ManifestBlobs_walk (v : Value) (b : List UInt8) (k : Int) (w : World) (hl : Bytes w v b) (hk1 : -9223372036854775808 ≤ k) (hk2 : k ≤ 9223372036854775807) (hKc : Consts w) :
    Calls Tryd.prog 3 #[v, .int .i64 k] w fun e w' => e = .returned (.bool true) ∧ Below w.heap.size w w' := by
  clear hk1 hk2
  obtain ⟨va, vc, hv⟩ := hl.len
  subst hv
  have hle := hl.le
  have HL := Lib.hid hl
  clear hl
  go_enter Tryd.func3, Tryd.ntmps3
  go_wp2_with fail
  refine (awake_any _ hKc).mono ?_
  rintro e w1 ⟨rfl, hb1⟩
  by_cases hbig : 30000 < b.length
  · have t0 : (30000 : Int) < (b.length : Int) := by omega
    go_wp2
    go_ret
    exact ⟨rfl, hb1⟩
  have t0 : ¬ (30000 : Int) < (b.length : Int) := by omega
  go_wp2_with fail
  refine (Blob_any _ b k w1 (HL.out.of_new hb1) (hKc.of_new hb1)).mono ?_
  rintro e w2 ⟨rfl, hb2⟩
  have hbA := below_next hb1 hb2
  have hok := blobE_ok b k
  obtain ⟨B, hB⟩ : ∃ B, blobE b k = B := ⟨_, rfl⟩
  rw [hB] at hok ⊢
  have HB := Lib.hid hB
  clear hB hb2 hb1
  obtain ⟨y, i⟩ := B
  dsimp only at hok ⊢
  have hsA := hbA.size
  go_wp2_with (first
    | ((with_reducible refine wpList_plain (o := ⟨none, Op.store 27 (.tmp 6) _, _, _, _, _⟩) rfl fun K hK => ?_); (refine wp_store_blob (.tmp 6) (.tmp 28) w2.heap.size y BlobL.zero rfl rfl rfl hok ⟨heap_alloc_new _ _, BlobL.zero_ok⟩ fun w3 hx3 hg3 hs3 => hK _ _ ?_); have hb3 : Below w2.heap.size w2 w3 := ((Below.refl _ w2).alloc (Nat.le_refl _) _).grown hg3 (by simp) (fun r e => by cases e; omega); have HX3 := Lib.hid hx3; have HB3 := Lib.hid hb3; clear hx3 hg3 hs3 hb3))
  have hbB := below_next hbA HB3.out
  refine (RBlob_any _ b k w3 (HL.out.of_new hbB)).mono ?_
  rintro e w4 ⟨rfl, hb4⟩
  have hbC := below_next hbB hb4
  rw [HB.out]
  have HX4 := Lib.hid (HX3.out.of_new hb4)
  have hsC := hbC.size
  have hsx := HX4.out.lt
  clear HX3 HB3 hb4 hbB hbA
  dsimp only
  go_wp2_with (first
    | ((with_reducible refine wpList_plain (o := ⟨none, Op.store 27 (.tmp 8) _, _, _, _, _⟩) rfl fun K hK => ?_); (refine wp_store_blob (.tmp 8) (.tmp 34) w4.heap.size y BlobL.zero rfl rfl rfl hok ⟨heap_alloc_new _ _, BlobL.zero_ok⟩ fun w5 hx5 hg5 hs5 => hK _ _ ?_); have hb5 : Below w4.heap.size w4 w5 := ((Below.refl _ w4).alloc (Nat.le_refl _) _).grown hg5 (by simp) (fun r e => by cases e; omega); have HX5 := Lib.hid hx5; have HB5 := Lib.hid hb5; clear hx5 hg5 hs5 hb5))
  have hbD := below_next hbC HB5.out
  have HX6 := Lib.hid (HX4.out.of_new HB5.out)
  refine (Leaves_any _ b k w5 (HL.out.of_new hbD) (hKc.of_new hbD)).mono ?_
  rintro e w6 ⟨v6, rfl, ho6, hb6⟩
  have hbE := below_next hbD hb6
  obtain ⟨E, hE⟩ : ∃ E, leavesE b k = E := ⟨_, rfl⟩
  rw [hE] at ho6 ⊢
  obtain ⟨L, j⟩ := E
  dsimp only at ho6 ⊢
  obtain ⟨a6, c6, hv6⟩ := ho6.digs.len
  subst hv6
  go_wp2_with fail
  refine (RLeaves_any _ b k w6 (HL.out.of_new hbE)).mono ?_
  rintro e w7 ⟨v7, rfl, ho7, hb7⟩
  have hbF := below_next hbE hb7
  rw [hE] at ho7 ⊢
  dsimp only at ho7 ⊢
  obtain ⟨a7, c7, hv7⟩ := ho7.digs.len
  subst hv7
  go_wp2_with fail
  refine (Same_any _ _ L L w7 (ho6.digs.of_new hb7) ho7.digs).mono ?_
  rintro e w8 ⟨rfl, hb8⟩
  rw [decide_eq_true rfl]
  have hx8 := ((HX6.out.of_new hb6).of_new hb7).of_new hb8
  have hy8 := ((HX5.out.of_new hb6).of_new hb7).of_new hb8
  have HX8 := Lib.hid hx8
  have HY8 := Lib.hid hy8
  have hqe := run_eql_blob y y hok hok
  have hqd : decide (y = y) = true := by simp
  have hgb := fun p q w' => run_guard_blob p q y y w'
  have hi : (i == i) = true := by simp
  have hj : (j == j) = true := by simp
  clear hx8 hy8 HX6 HX5 ho6 ho7
  go_wp2_with (first
    | ((with_reducible refine wpList_plain (o := ⟨some 51, Op.load 27 _, _, _, _, _⟩) rfl fun K hK => ?_); (refine wp_load_blob (g := w2.heap.size) (x := y) rfl rfl HX8.out (hK _ _ ?_)))
    | ((with_reducible refine wpList_plain (o := ⟨some 52, Op.load 27 _, _, _, _, _⟩) rfl fun K hK => ?_); (refine wp_load_blob (g := w4.heap.size) (x := y) rfl rfl HY8.out (hK _ _ ?_))))
  go_ret
  exact ⟨rfl, below_next hbF hb8⟩

end Go.Proofs.YtnomekfemadpeaaDoor
