/- The walk of the law ManifestAsks: it answers true. Condition: the table of constants as the program lays it. -/
import Derived.Test.YtnomekfemadpeaaDoorMfAwake
import Derived.Test.YtnomekfemadpeaaDoorMfRight
namespace Go.Proofs.YtnomekfemadpeaaDoor
open Go.RowKit
set_option linter.unusedVariables false
set_option linter.unusedSimpArgs false
set_option maxRecDepth 100000

set_option maxHeartbeats 3200000 in
theorem ManifestAsks_walk (x : BlobL) (i : Int) (v : Value) (b : List UInt8) (w : World) (hx : x.ok) (hi1 : -9223372036854775808 ≤ i) (hi2 : i ≤ 9223372036854775807) (hl : Bytes w v b) (hKc : Consts w) :
    Calls Tryd.prog 5 #[BlobV x, .int .i64 i, v] w fun e w' => e = .returned (.bool true) ∧ Below w.heap.size w w' := by
  obtain ⟨va, vc, hv⟩ := hl.len
  subst hv
  have hle := hl.le
  have HL := Lib.hid hl
  clear hl
  rw [show BlobV x = .agg x.cells.toArray from rfl]
  have hR := fun w' => Right_any x w' hx
  have hRR := fun w' => RRight_any x w' hx
  have hC := fun w' => Count_any x w' hx
  have hRC := fun w' => RCount_any x w' hx
  have hS := fun w' => Span_any x i w' hx hi1 hi2
  have hRS := fun w' => RSpan_any x i w' hx hi1 hi2
  have hW := fun w' h k => Whole_any x (.slice va b.length vc) b w' hx h k
  have hRW := fun w' h => RWhole_any x (.slice va b.length vc) b w' hx h
  generalize mrightB x.size x.piece = r at hR hRR
  generalize mcountB x.size x.piece = c at hC hRC
  generalize spanZ x.size x.piece i = S at hS hRS
  generalize wholeB x b = q at hW hRW
  obtain ⟨s1, s2, s3⟩ := S
  dsimp only at hS hRS
  have HR := Lib.hid hR
  have HRR := Lib.hid hRR
  have HC := Lib.hid hC
  have HRC := Lib.hid hRC
  have HS := Lib.hid hS
  have HRS := Lib.hid hRS
  have HW := Lib.hid hW
  have HRW := Lib.hid hRW
  clear hR hRR hC hRC hS hRS hW hRW
  go_enter Tryd.func5, Tryd.ntmps5
  go_upto_region 1 with (fail)
  obtain ⟨W, hW⟩ : ∃ W, w.alloc (.cells x.cells.toArray 27) = W := ⟨_, rfl⟩
  have hbo := blob_alloc w hx
  have hb0 : Below w.heap.size w (w.alloc (.cells x.cells.toArray 27)) := (Below.refl _ w).alloc (Nat.le_refl _) _
  rw [hW] at hbo hb0 ⊢
  clear hW
  go_wp2_with fail
  refine (awake_any _ (hKc.of_new hb0)).mono ?_
  rintro e w1 ⟨rfl, hb1⟩
  have hbA := below_next hb0 hb1
  by_cases hbig : 30000 < b.length
  · have t0 : (30000 : Int) < (b.length : Int) := by omega
    go_wp2
    go_ret
    exact ⟨rfl, hbA⟩
  have t0 : ¬ (30000 : Int) < (b.length : Int) := by omega
  have HBO1 := Lib.hid (hbo.of_new hb1)
  clear hbo hb1 hb0
  go_wp2_with ((with_reducible refine wpList_plain (o := ⟨some 24, Op.load 27 _, _, _, _, _⟩) rfl fun K hK => ?_); (refine wp_load_blob (g := w.heap.size) (x := x) rfl rfl HBO1.out (hK _ _ ?_)))
  refine (HS.out w1).mono ?_
  rintro e w2 ⟨rfl, hb2⟩
  have hbB := below_next hbA hb2
  have HBO2 := Lib.hid (HBO1.out.of_new hb2)
  clear hbA hb2 HBO1
  go_wp2_with ((with_reducible refine wpList_plain (o := ⟨some 31, Op.load 27 _, _, _, _, _⟩) rfl fun K hK => ?_); (refine wp_load_blob (g := w.heap.size) (x := x) rfl rfl HBO2.out (hK _ _ ?_)))
  refine (HRS.out w2).mono ?_
  rintro e w3 ⟨rfl, hb3⟩
  have hbC := below_next hbB hb3
  have HBO3 := Lib.hid (HBO2.out.of_new hb3)
  clear hbB hb3 HBO2
  have e1 : (s1 == s1) = true := by simp
  have e2 : (s2 == s2) = true := by simp
  have e3 : (s3 == s3) = true := by simp
  have e4 : (c == c) = true := by simp
  have e5 : (r == r) = true := by simp
  have e6 : (q == q) = true := by simp
  go_upto_region 6 with (fail)
  refine wp_region_grew (by kernel_rfl) (by kernel_rfl) ?_
  repeat (first
    | (go_big_quiet_want; (with_reducible apply quiet_load_blob (p := .tmp 3)); rfl; rfl; exact HBO3.out; go_simp; go_big_quiet_on)
    | (go_big_quiet_want; (with_reducible apply quiet_load_at (ty := 25) (x := .tmp _)); rfl; rfl; assumption; go_simp; go_big_quiet_on)
    | (go_big_quiet_want; apply quiet_val; (intro w' hw'; go_simp; first | done | rfl); go_simp; go_big_quiet_on)
    | (go_big_quiet_want; apply quiet_call (f := 19); (intro w' hw'; go_simp; first | done | rfl); (intro w' hw'; exact Grew.call hw' (HR.out w')); go_simp; go_big_quiet_on)
    | (go_big_quiet_want; apply quiet_call (f := 20); (intro w' hw'; go_simp; first | done | rfl); (intro w' hw'; exact Grew.call hw' (HRR.out w')); go_simp; go_big_quiet_on)
    | (go_big_quiet_want; apply quiet_call (f := 21); (intro w' hw'; go_simp; first | done | rfl); (intro w' hw'; exact Grew.call hw' (HC.out w')); go_simp; go_big_quiet_on)
    | (go_big_quiet_want; apply quiet_call (f := 22); (intro w' hw'; go_simp; first | done | rfl); (intro w' hw'; exact Grew.call hw' (HRC.out w')); go_simp; go_big_quiet_on)
    | (go_big_quiet_want; apply quiet_call (f := 16); (intro w' hw'; go_simp; first | done | rfl); (intro w' hw'; exact Grew.call hw' (HW.out w' (HL.out.of_new (below_next hbC hw')) (hKc.of_new (below_next hbC hw')))); go_simp; go_big_quiet_on)
    | (go_big_quiet_want; apply quiet_call (f := 23); (intro w' hw'; go_simp; first | done | rfl); (intro w' hw'; exact Grew.call hw' (HRW.out w' (HL.out.of_new (below_next hbC hw')))); go_simp; go_big_quiet_on)
    | (go_big_quiet_skip))
  refine wpQuiet_nil ?_
  intro w9 hw9
  go_wp2
  go_ret
  exact ⟨rfl, below_next hbC hw9⟩

end Go.Proofs.YtnomekfemadpeaaDoor
