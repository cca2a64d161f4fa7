/- The walks of Leaf and Node, of merkle and of the document's answer: the hash of a piece, and of two hashes. Conditions: the table of constants as the program lays it (merkle's); a piece of no more than 2^20 bytes; hashes of 32 bytes. -/
import Derived.Test.YtnomekfemadpeaaDoorShaTagged
import Derived.Test.YtnomekfemadpeaaDoorShaRefTag
import Derived.Test.YtnomekfemadpeaaDoorQuiet
namespace Go.Proofs.YtnomekfemadpeaaDoor
open Go.RowKit
set_option linter.unusedVariables false
set_option linter.unusedSimpArgs false

def leafL (b : List UInt8) : List UInt8 := sumL (partsL 0 [b])
def nodeL (x y : List UInt8) : List UInt8 := sumL (partsL 1 [x, y])
def noneL : List UInt8 := sumL (partsL 2 [])
theorem leafL_len (b : List UInt8) : (leafL b).length = 32 := sumL_len _
theorem nodeL_len (x y : List UInt8) : (nodeL x y).length = 32 := sumL_len _
theorem noneL_len : noneL.length = 32 := sumL_len _

theorem parts_one {W : World} {g t : Nat} {u : Value} {b : List UInt8} (h : W.heap[g]? = some (.cells #[u] t (0, 0))) (hu : Bytes W u b) : PartsV W (.slice (some ⟨g, 0, none⟩) 1 1) [b] := by
  refine ⟨_, 1, rfl, Nat.le_refl _, by unfold maxLen; omega, (fun h => by cases h), fun _ => ⟨g, 0, rfl, (Array.getElem?_eq_some_iff.1 h).1, fun i hi => ?_⟩⟩
  obtain rfl : i = 0 := by simp at hi; omega
  exact ⟨u, by simp [World.cell?, h], hu⟩
theorem parts_two {W : World} {g t : Nat} {u v : Value} {a b : List UInt8} (h : W.heap[g]? = some (.cells #[u, v] t (0, 0))) (hu : Bytes W u a) (hv : Bytes W v b) : PartsV W (.slice (some ⟨g, 0, none⟩) 2 2) [a, b] := by
  refine ⟨_, 2, rfl, Nat.le_refl _, by unfold maxLen; omega, (fun h => by cases h), fun _ => ⟨g, 0, rfl, (Array.getElem?_eq_some_iff.1 h).1, fun i hi => ?_⟩⟩
  match i, hi with
  | 0, _ => exact ⟨u, by simp [World.cell?, h], hu⟩
  | 1, _ => exact ⟨v, by simp [World.cell?, h], hv⟩
theorem bytes_octs {W : World} {g t : Nat} {bs : List UInt8} (h : Octs W g t bs) (hl : bs.length = 32) : Bytes W (.slice (some ⟨g, 0, none⟩) 32 32) bs := by
  refine ⟨by simp, _, 32, ?_, by omega, by unfold maxLen; omega, (fun h => by cases h), fun _ => ⟨g, 0, rfl, (Array.getElem?_eq_some_iff.1 h).1, fun j hj => ?_⟩⟩
  · rw [hl]
  · rw [Nat.zero_add, h.cell (by omega)]
    rw [List.getElem?_map, List.getElem?_eq_getElem (by omega)]
    simp [List.getD, List.getElem?_eq_getElem (show j < bs.length by omega)]

set_option maxRecDepth 100000 in
set_option maxHeartbeats 800000 in
theorem Leaf_any (v : Value) (b : List UInt8) (w : World) (hb : Bytes w v b) (hl : b.length ≤ 1048576) (hK : Consts w) :
    Calls Tryd.prog 46 #[v] w fun e w' => e = .returned (.agg ((leafL b).map B8).toArray) ∧ Below w.heap.size w w' := by
  have HDL := Lib.hid (sumL_len (partsL 0 [b]))
  obtain ⟨va, vc, hv⟩ := hb.len
  subst hv
  have HB := Lib.hid hb
  clear hb
  go_enter Tryd.func46, Tryd.ntmps46
  go_wp2_with fail
  generalize hW1 : (w.alloc _).alloc _ = W1
  obtain ⟨hR, hP, hb1, hz⟩ : Octs W1 w.heap.size 25 (List.replicate 32 0) ∧ PartsV W1 (.slice (some ⟨w.heap.size + 1, 0, none⟩) 1 1) [b] ∧ Below w.heap.size w W1 ∧ w.heap.size + 2 = W1.heap.size := by
    subst hW1
    refine ⟨(Below.heap_alloc _ _ _ (by simp)).trans (heap_alloc_new w _), parts_one (t := 22) (u := .slice va b.length vc) ?_ ((HB.out.of_alloc _).of_alloc _), ((Below.refl _ w).alloc (Nat.le_refl _) _).alloc (by simp) _, by simp⟩
    have := heap_alloc_new (w.alloc (.cells ((List.replicate 32 (0 : UInt8)).map B8).toArray 25)) (.cells #[.slice va b.length vc] 22)
    rwa [World.size_alloc] at this
  clear hW1
  refine (Tagged_any 0 _ [b] W1 hP (by simp) (by simpa using hl) (hK.of_new hb1)).mono ?_
  rintro e w2 ⟨rfl, hb2⟩
  have hR2 := Lib.hid (hR.of_block (hb2.block _ (by omega)))
  have hbF := Lib.hid (below_next hb1 (hb2.mono (by omega)))
  clear hb2 hb1 hR hP
  go_wp2_with ((with_reducible refine wpList_store_octs (op := ⟨none, Op.store 25 (.tmp 2) (.tmp 5), _, _, _, _⟩) 25 (.tmp 2) (.tmp 5) (w.heap.size) 25 (List.replicate 32 (0 : UInt8)) (sumL (partsL 0 [b])) ?g ?ho ?hx ?hy ?hh ?hi ?hs ?_); (case g => rfl); (case ho => rfl); (case hx => rfl); (case hy => rfl); (case hh => exact hR2.out); (case hi => rw [HDL.out]; kernel_rfl); (case hs => rw [HDL.out]; rfl))
  refine bodyPost_ret (results_cell rfl _ rfl (run_loadVar_row _ _ 25 _ ((sumL (partsL 0 [b])).map B8).toArray (0, 0) _ (setRow_heap _ _ _ _ _ _ hR2.out) Tryd.underlying25 rfl (by rw [info_dig]; simp [sumL_len]))) rfl ⟨rfl, ?_⟩
  exact hbF.out.trans (below_setRow' _ _ _ (Nat.le_refl _))

set_option maxRecDepth 100000 in
set_option maxHeartbeats 800000 in
theorem RLeaf_any (v : Value) (b : List UInt8) (w : World) (hb : Bytes w v b) (hl : b.length ≤ 1048576) :
    Calls Tryd.prog 26 #[v] w fun e w' => e = .returned (.agg ((leafL b).map B8).toArray) ∧ Below w.heap.size w w' := by
  have HDL := Lib.hid (sumL_len (partsL 0 [b]))
  obtain ⟨va, vc, hv⟩ := hb.len
  subst hv
  have HB := Lib.hid hb
  clear hb
  go_enter Tryd.func26, Tryd.ntmps26
  go_wp2_with fail
  generalize hW1 : (w.alloc _).alloc _ = W1
  obtain ⟨hR, hP, hb1, hz⟩ : Octs W1 w.heap.size 25 (List.replicate 32 0) ∧ PartsV W1 (.slice (some ⟨w.heap.size + 1, 0, none⟩) 1 1) [b] ∧ Below w.heap.size w W1 ∧ w.heap.size + 2 = W1.heap.size := by
    subst hW1
    refine ⟨(Below.heap_alloc _ _ _ (by simp)).trans (heap_alloc_new w _), parts_one (t := 22) (u := .slice va b.length vc) ?_ ((HB.out.of_alloc _).of_alloc _), ((Below.refl _ w).alloc (Nat.le_refl _) _).alloc (by simp) _, by simp⟩
    have := heap_alloc_new (w.alloc (.cells ((List.replicate 32 (0 : UInt8)).map B8).toArray 25)) (.cells #[.slice va b.length vc] 22)
    rwa [World.size_alloc] at this
  clear hW1
  refine (RTagged_any 0 _ [b] W1 hP (by simp) (by simpa using hl)).mono ?_
  rintro e w2 ⟨rfl, hb2⟩
  have hR2 := Lib.hid (hR.of_block (hb2.block _ (by omega)))
  have hbF := Lib.hid (below_next hb1 (hb2.mono (by omega)))
  clear hb2 hb1 hR hP
  go_wp2_with ((with_reducible refine wpList_store_octs (op := ⟨none, Op.store 25 (.tmp 2) (.tmp 5), _, _, _, _⟩) 25 (.tmp 2) (.tmp 5) (w.heap.size) 25 (List.replicate 32 (0 : UInt8)) (sumL (partsL 0 [b])) ?g ?ho ?hx ?hy ?hh ?hi ?hs ?_); (case g => rfl); (case ho => rfl); (case hx => rfl); (case hy => rfl); (case hh => exact hR2.out); (case hi => rw [HDL.out]; kernel_rfl); (case hs => rw [HDL.out]; rfl))
  refine bodyPost_ret (results_cell rfl _ rfl (run_loadVar_row _ _ 25 _ ((sumL (partsL 0 [b])).map B8).toArray (0, 0) _ (setRow_heap _ _ _ _ _ _ hR2.out) Tryd.underlying25 rfl (by rw [info_dig]; simp [sumL_len]))) rfl ⟨rfl, ?_⟩
  exact hbF.out.trans (below_setRow' _ _ _ (Nat.le_refl _))

set_option maxRecDepth 100000 in
set_option maxHeartbeats 800000 in
theorem Node_any (x y : List UInt8) (w : World) (hx : x.length = 32) (hy : y.length = 32) (hK : Consts w) :
    Calls Tryd.prog 74 #[.agg (x.map B8).toArray, .agg (y.map B8).toArray] w fun e w' => e = .returned (.agg ((nodeL x y).map B8).toArray) ∧ Below w.heap.size w w' := by
  have HDL := Lib.hid (sumL_len (partsL 1 [x, y]))
  have HX := Lib.hid hx
  have HY := Lib.hid hy
  clear hx hy
  go_enter Tryd.func74, Tryd.ntmps74
  go_upto_region 1 with (fail)
  generalize hW0 : ((w.alloc _).alloc _).alloc _ = W0
  obtain ⟨hO1, hO2, hO3, hb0, hz0⟩ : Octs W0 w.heap.size 25 x ∧ Octs W0 (w.heap.size + 1) 25 y ∧ Octs W0 (w.heap.size + 1 + 1) 25 (List.replicate 32 0) ∧ Below w.heap.size w W0 ∧ w.heap.size + 3 = W0.heap.size := by
    subst hW0
    refine ⟨(Below.heap_alloc _ _ _ (by simp; omega)).trans ((Below.heap_alloc _ _ _ (by simp)).trans (heap_alloc_new w _)), ?_, ?_, (((Below.refl _ w).alloc (Nat.le_refl _) _).alloc (by simp) _).alloc (by simp; omega) _, by simp⟩
    · refine (Below.heap_alloc _ _ _ (by simp)).trans ?_
      have := heap_alloc_new (w.alloc (.cells (x.map B8).toArray 25)) (.cells (y.map B8).toArray 25)
      rwa [World.size_alloc] at this
    · have := heap_alloc_new ((w.alloc (.cells (x.map B8).toArray 25)).alloc (.cells (y.map B8).toArray 25)) (.cells ((List.replicate 32 (0 : UInt8)).map B8).toArray 25)
      rwa [World.size_alloc, World.size_alloc] at this
  clear hW0
  refine wp_region_grew_tail 2 (by kernel_rfl) (by kernel_rfl) ?_
  simp only [List.take_succ_cons, List.take_zero, List.drop_succ_cons, List.drop_zero]
  (go_big_quiet_want; apply quiet_val; (intro w' hw'; go_simp; first | done | rfl); go_simp; go_big_quiet_on)
  (go_big_quiet_want; apply quiet_val; (intro w' hw'; go_simp; first | done | rfl); go_simp; go_big_quiet_on)
  refine wpQuiet_nil ?_
  intro w1 hw1
  have HO1 := Lib.hid (hw1.octs hO1)
  have HO2 := Lib.hid (hw1.octs hO2)
  have HO3 := Lib.hid (hw1.octs hO3)
  have HB1 := Lib.hid (hb0.trans (hw1.mono (by omega)) : Below w.heap.size w w1)
  have hz1 : w.heap.size + 3 ≤ w1.heap.size := by have := Below.size hw1; omega
  clear hw1 hO1 hO2 hO3 hb0
  go_wp2_with fail
  generalize hW2 : w1.alloc _ = w2
  obtain ⟨hP, hR, hb2, hz2⟩ : PartsV w2 (.slice (some ⟨w1.heap.size, 0, none⟩) 2 2) [x, y] ∧ Octs w2 (w.heap.size + 1 + 1) 25 (List.replicate 32 0) ∧ Below w.heap.size w w2 ∧ w1.heap.size + 1 = w2.heap.size := by
    subst hW2
    refine ⟨parts_two (t := 22) (heap_alloc_new w1 _) ((bytes_octs HO1.out HX.out).of_alloc _) ((bytes_octs HO2.out HY.out).of_alloc _), (HO3.out.of_block (Below.heap_alloc _ _ _ (by omega))), HB1.out.alloc (by omega) _, by simp⟩
  clear hW2
  refine (Tagged_any 1 _ [x, y] w2 hP (by simp) (by have := HX.out; have := HY.out; simp; omega) (hK.of_new hb2)).mono ?_
  rintro e w3 ⟨rfl, hb3⟩
  have hR2 := Lib.hid (hR.of_block (hb3.block _ (by omega)))
  have hbF := Lib.hid (hb2.trans (hb3.mono (by omega)) : Below w.heap.size w w3)
  clear hb3 hb2 hR hP
  go_wp2_with ((with_reducible refine wpList_store_octs (op := ⟨none, Op.store 25 (.tmp 4) (.tmp 8), _, _, _, _⟩) 25 (.tmp 4) (.tmp 8) (w.heap.size + 1 + 1) 25 (List.replicate 32 (0 : UInt8)) (sumL (partsL 1 [x, y])) ?g ?ho ?hx ?hy ?hh ?hi ?hs ?_); (case g => rfl); (case ho => rfl); (case hx => rfl); (case hy => rfl); (case hh => exact hR2.out); (case hi => rw [HDL.out]; kernel_rfl); (case hs => rw [HDL.out]; rfl))
  refine bodyPost_ret (results_cell rfl _ rfl (run_loadVar_row _ _ 25 _ ((sumL (partsL 1 [x, y])).map B8).toArray (0, 0) _ (setRow_heap _ _ _ _ _ _ hR2.out) Tryd.underlying25 rfl (by rw [info_dig]; simp [sumL_len]))) rfl ⟨rfl, ?_⟩
  exact hbF.out.trans (below_setRow' _ _ _ (by omega))

set_option maxRecDepth 100000 in
set_option maxHeartbeats 800000 in
theorem RNode_any (x y : List UInt8) (w : World) (hx : x.length = 32) (hy : y.length = 32) :
    Calls Tryd.prog 50 #[.agg (x.map B8).toArray, .agg (y.map B8).toArray] w fun e w' => e = .returned (.agg ((nodeL x y).map B8).toArray) ∧ Below w.heap.size w w' := by
  have HDL := Lib.hid (sumL_len (partsL 1 [x, y]))
  have HX := Lib.hid hx
  have HY := Lib.hid hy
  clear hx hy
  go_enter Tryd.func50, Tryd.ntmps50
  go_upto_region 1 with (fail)
  generalize hW0 : ((w.alloc _).alloc _).alloc _ = W0
  obtain ⟨hO1, hO2, hO3, hb0, hz0⟩ : Octs W0 w.heap.size 25 x ∧ Octs W0 (w.heap.size + 1) 25 y ∧ Octs W0 (w.heap.size + 1 + 1) 25 (List.replicate 32 0) ∧ Below w.heap.size w W0 ∧ w.heap.size + 3 = W0.heap.size := by
    subst hW0
    refine ⟨(Below.heap_alloc _ _ _ (by simp; omega)).trans ((Below.heap_alloc _ _ _ (by simp)).trans (heap_alloc_new w _)), ?_, ?_, (((Below.refl _ w).alloc (Nat.le_refl _) _).alloc (by simp) _).alloc (by simp; omega) _, by simp⟩
    · refine (Below.heap_alloc _ _ _ (by simp)).trans ?_
      have := heap_alloc_new (w.alloc (.cells (x.map B8).toArray 25)) (.cells (y.map B8).toArray 25)
      rwa [World.size_alloc] at this
    · have := heap_alloc_new ((w.alloc (.cells (x.map B8).toArray 25)).alloc (.cells (y.map B8).toArray 25)) (.cells ((List.replicate 32 (0 : UInt8)).map B8).toArray 25)
      rwa [World.size_alloc, World.size_alloc] at this
  clear hW0
  refine wp_region_grew_tail 2 (by kernel_rfl) (by kernel_rfl) ?_
  simp only [List.take_succ_cons, List.take_zero, List.drop_succ_cons, List.drop_zero]
  (go_big_quiet_want; apply quiet_val; (intro w' hw'; go_simp; first | done | rfl); go_simp; go_big_quiet_on)
  (go_big_quiet_want; apply quiet_val; (intro w' hw'; go_simp; first | done | rfl); go_simp; go_big_quiet_on)
  refine wpQuiet_nil ?_
  intro w1 hw1
  have HO1 := Lib.hid (hw1.octs hO1)
  have HO2 := Lib.hid (hw1.octs hO2)
  have HO3 := Lib.hid (hw1.octs hO3)
  have HB1 := Lib.hid (hb0.trans (hw1.mono (by omega)) : Below w.heap.size w w1)
  have hz1 : w.heap.size + 3 ≤ w1.heap.size := by have := Below.size hw1; omega
  clear hw1 hO1 hO2 hO3 hb0
  go_wp2_with fail
  generalize hW2 : w1.alloc _ = w2
  obtain ⟨hP, hR, hb2, hz2⟩ : PartsV w2 (.slice (some ⟨w1.heap.size, 0, none⟩) 2 2) [x, y] ∧ Octs w2 (w.heap.size + 1 + 1) 25 (List.replicate 32 0) ∧ Below w.heap.size w w2 ∧ w1.heap.size + 1 = w2.heap.size := by
    subst hW2
    refine ⟨parts_two (t := 22) (heap_alloc_new w1 _) ((bytes_octs HO1.out HX.out).of_alloc _) ((bytes_octs HO2.out HY.out).of_alloc _), (HO3.out.of_block (Below.heap_alloc _ _ _ (by omega))), HB1.out.alloc (by omega) _, by simp⟩
  clear hW2
  refine (RTagged_any 1 _ [x, y] w2 hP (by simp) (by have := HX.out; have := HY.out; simp; omega)).mono ?_
  rintro e w3 ⟨rfl, hb3⟩
  have hR2 := Lib.hid (hR.of_block (hb3.block _ (by omega)))
  have hbF := Lib.hid (hb2.trans (hb3.mono (by omega)) : Below w.heap.size w w3)
  clear hb3 hb2 hR hP
  go_wp2_with ((with_reducible refine wpList_store_octs (op := ⟨none, Op.store 25 (.tmp 4) (.tmp 8), _, _, _, _⟩) 25 (.tmp 4) (.tmp 8) (w.heap.size + 1 + 1) 25 (List.replicate 32 (0 : UInt8)) (sumL (partsL 1 [x, y])) ?g ?ho ?hx ?hy ?hh ?hi ?hs ?_); (case g => rfl); (case ho => rfl); (case hx => rfl); (case hy => rfl); (case hh => exact hR2.out); (case hi => rw [HDL.out]; kernel_rfl); (case hs => rw [HDL.out]; rfl))
  refine bodyPost_ret (results_cell rfl _ rfl (run_loadVar_row _ _ 25 _ ((sumL (partsL 1 [x, y])).map B8).toArray (0, 0) _ (setRow_heap _ _ _ _ _ _ hR2.out) Tryd.underlying25 rfl (by rw [info_dig]; simp [sumL_len]))) rfl ⟨rfl, ?_⟩
  exact hbF.out.trans (below_setRow' _ _ _ (by omega))

end Go.Proofs.YtnomekfemadpeaaDoor
