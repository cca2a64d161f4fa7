/- The walk of the law DigestCompares: it answers true. Condition: the table of constants as the program lays it. -/
import Derived.Test.YtakdbhehacbokaaDoorShaRefCmp
import Derived.Test.YtakdbhehacbokaaDoorQuiet
namespace Go.Proofs.YtakdbhehacbokaaDoor
open Go.RowKit
set_option linter.unusedVariables false

set_option maxRecDepth 100000 in
set_option maxHeartbeats 800000 in
theorem DigestCompares_walk (a b : List UInt8) (w : World) (ha : a.length = 32) (hb : b.length = 32) (hK : Consts w) :
    Calls Tryd.prog 9 #[.agg (a.map B8).toArray, .agg (b.map B8).toArray] w fun e w' => e = .returned (.bool true) ∧ Below w.heap.size w w' := by
  have HA := Lib.hid ha
  have HB := Lib.hid hb
  clear ha hb
  go_enter Tryd.func9, Tryd.ntmps9
  go_wp2_with fail
  generalize hW1 : (w.alloc _).alloc _ = W1
  obtain ⟨hX, hY, hb1, hz1⟩ : Octs W1 w.heap.size 25 a ∧ Octs W1 (w.heap.size + 1) 25 b ∧ Below w.heap.size w W1 ∧ w.heap.size + 2 = W1.heap.size := by
    subst hW1; exact octs_pair w _ a b _ _ rfl rfl
  clear hW1
  refine (awake_any W1 (hK.of_new hb1)).mono ?_
  rintro e w1 ⟨rfl, hb2⟩
  have HX := Lib.hid (hX.of_block (hb2.block _ (by omega)))
  have HY := Lib.hid (hY.of_block (hb2.block _ (by omega)))
  have hbA := below_next hb1 hb2
  clear hX hY hb1 hb2 hz1
  go_wp2
  refine wp_region_grew (by kernel_rfl) (by kernel_rfl) ?_
  (go_big_quiet_want; apply quiet_val; (intro w' hw'; go_simp; first | done | rfl); go_simp; go_big_quiet_on)
  (go_big_quiet_want; apply quiet_val; (intro w' hw'; go_simp; first | done | rfl); go_simp; go_big_quiet_on)
  (go_big_quiet_want; (with_reducible refine quiet_load_octs 25 (.tmp 2) (w.heap.size) 25 32 5 a ?_ ?_ ?_ ?_ ?_ ?_); rfl; rfl; exact HX.out; exact Tryd.underlying25; (rw [HA.out]; kernel_rfl); go_simp; go_big_quiet_on)
  (go_big_quiet_want; (with_reducible refine quiet_load_octs 25 (.tmp 3) (w.heap.size + 1) 25 32 5 b ?_ ?_ ?_ ?_ ?_ ?_); rfl; rfl; exact HY.out; exact Tryd.underlying25; (rw [HB.out]; kernel_rfl); go_simp; go_big_quiet_on)
  (go_big_quiet_want; apply quiet_call (f := 15); (intro w' hw'; go_simp; first | done | rfl); (intro w' hw'; exact Grew.call hw' (Compare_any a b w' HA.out HB.out)); go_simp; go_big_quiet_on)
  (go_big_quiet_want; (with_reducible refine quiet_load_octs 25 (.tmp 2) (w.heap.size) 25 32 5 a ?_ ?_ ?_ ?_ ?_ ?_); rfl; rfl; exact HX.out; exact Tryd.underlying25; (rw [HA.out]; kernel_rfl); go_simp; go_big_quiet_on)
  (go_big_quiet_want; (with_reducible refine quiet_load_octs 25 (.tmp 3) (w.heap.size + 1) 25 32 5 b ?_ ?_ ?_ ?_ ?_ ?_); rfl; rfl; exact HY.out; exact Tryd.underlying25; (rw [HB.out]; kernel_rfl); go_simp; go_big_quiet_on)
  (go_big_quiet_want; apply quiet_call (f := 21); (intro w' hw'; go_simp; first | done | rfl); (intro w' hw'; exact Grew.call hw' (RCompare_any a b w' HA.out HB.out)); go_simp; go_big_quiet_on)
  (go_big_quiet_want; apply quiet_val; (intro w' hw'; go_simp; first | done | rfl); go_simp; go_big_quiet_on)
  (go_big_quiet_want; apply quiet_val; (intro w' hw'; go_simp; first | done | rfl); go_simp; go_big_quiet_on)
  (go_big_quiet_want; apply quiet_val; (intro w' hw'; go_simp; first | done | rfl); go_simp; go_big_quiet_on)
  (go_big_quiet_want; (with_reducible refine quiet_load_octs 25 (.tmp 2) (w.heap.size) 25 32 5 a ?_ ?_ ?_ ?_ ?_ ?_); rfl; rfl; exact HX.out; exact Tryd.underlying25; (rw [HA.out]; kernel_rfl); go_simp; go_big_quiet_on)
  (go_big_quiet_want; (with_reducible refine quiet_load_octs 25 (.tmp 3) (w.heap.size + 1) 25 32 5 b ?_ ?_ ?_ ?_ ?_ ?_); rfl; rfl; exact HY.out; exact Tryd.underlying25; (rw [HB.out]; kernel_rfl); go_simp; go_big_quiet_on)
  (go_big_quiet_want; apply quiet_call (f := 20); (intro w' hw'; go_simp; first | done | rfl); (intro w' hw'; exact Grew.call hw' (Near_any a b w' HA.out HB.out)); go_simp; go_big_quiet_on)
  (go_big_quiet_want; (with_reducible refine quiet_load_octs 25 (.tmp 2) (w.heap.size) 25 32 5 a ?_ ?_ ?_ ?_ ?_ ?_); rfl; rfl; exact HX.out; exact Tryd.underlying25; (rw [HA.out]; kernel_rfl); go_simp; go_big_quiet_on)
  (go_big_quiet_want; (with_reducible refine quiet_load_octs 25 (.tmp 3) (w.heap.size + 1) 25 32 5 b ?_ ?_ ?_ ?_ ?_ ?_); rfl; rfl; exact HY.out; exact Tryd.underlying25; (rw [HB.out]; kernel_rfl); go_simp; go_big_quiet_on)
  (go_big_quiet_want; apply quiet_call (f := 22); (intro w' hw'; go_simp; first | done | rfl); (intro w' hw'; exact Grew.call hw' (RNear_any a b w' HA.out HB.out)); go_simp; go_big_quiet_on)
  (go_big_quiet_want; apply quiet_val; (intro w' hw'; go_simp; first | done | rfl); go_simp; go_big_quiet_on)
  (go_big_quiet_want; apply quiet_val; (intro w' hw'; go_simp; first | done | rfl); go_simp; go_big_quiet_on)
  (go_big_quiet_want; apply quiet_val; (intro w' hw'; go_simp; first | done | rfl); go_simp; go_big_quiet_on)
  refine wpQuiet_nil ?_
  intro w2 hw2
  go_wp2
  go_ret
  exact ⟨rfl, below_next hbA hw2⟩

end Go.Proofs.YtakdbhehacbokaaDoor
