/- The walk of the reference's constants. No condition. -/
import Derived.Test.YtnomekfemadpeaaDoorShaRefWords
namespace Go.Proofs.YtnomekfemadpeaaDoor
open Go.RowKit
set_option linter.unusedVariables false

theorem words_new (w : World) (t : Nat) (A : Array Value) (xs ws : List UInt32) (hA : A = (xs.map W32).toArray) : Words ((w.alloc (.cells A t)).setRow w.heap.size (ws.map W32).toArray) w.heap.size t ws ∧ Below w.heap.size w ((w.alloc (.cells A t)).setRow w.heap.size (ws.map W32).toArray) ∧ w.heap.size + 1 = ((w.alloc (.cells A t)).setRow w.heap.size (ws.map W32).toArray).heap.size := by
  subst hA
  exact ⟨setRow_heap _ _ _ _ _ _ (heap_alloc_new w _), ((Below.refl _ w).alloc (Nat.le_refl _) _).trans (below_setRow' _ _ _ (Nat.le_refl _)), by simp⟩

theorem shaK_cells : (shaK.map W32).toArray.size = 64 := rfl

set_option maxRecDepth 100000 in
set_option maxHeartbeats 800000 in
theorem constants_any (w : World) : Calls Tryd.prog 88 #[] w fun e w' => e = .returned (.agg (shaK.map W32).toArray) ∧ Below w.heap.size w w' := by
  go_enter Tryd.func88, Tryd.ntmps88
  go_wp2_with ((with_reducible refine wpList_store_words (op := ⟨none, Op.store 119 (.tmp 0) (.tmp 1), _, _, _, _⟩) 119 (.tmp 0) (.tmp 1) w.heap.size 119 (List.replicate 64 (0 : UInt32)) shaK ?g ?ho ?hx ?hy ?hh ?hi ?hs ?_); (case g => rfl); (case ho => rfl); (case hx => rfl); (case hy => kernel_rfl); (case hh => exact heap_alloc_new w _); (case hi => kernel_rfl); (case hs => rfl))
  refine bodyPost_ret (results_cell rfl _ rfl ((words_new w 119 _ (List.replicate 64 0) shaK (by rfl)).1.run_load 119 88 64 Tryd.underlying119 (by kernel_rfl))) rfl ⟨rfl, ?_⟩
  exact (words_new w 119 _ (List.replicate 64 0) shaK (by rfl)).2.1

end Go.Proofs.YtnomekfemadpeaaDoor
