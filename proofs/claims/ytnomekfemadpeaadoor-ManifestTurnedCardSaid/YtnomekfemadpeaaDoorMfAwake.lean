/- The walk of chapter 05's awake: it is true. Condition: the table of constants as the program lays it. -/
import Derived.Test.YtnomekfemadpeaaDoorMfWhole
import Derived.Deep.OwnRows
namespace Go.Proofs.YtnomekfemadpeaaDoor
open Go.RowKit
set_option linter.unusedVariables false
set_option linter.unusedSimpArgs false
set_option maxRecDepth 100000

theorem bytes_block {W : World} {g t : Nat} {bs : List UInt8} (h : Octs W g t bs) (hl : bs.length ≤ 1099511627776) (n : Nat) (hn : bs.length = n) : Bytes W (.slice (some ⟨g, 0, none⟩) n n) bs := by
  subst hn
  refine ⟨by simp, _, bs.length, rfl, Nat.le_refl _, by unfold maxLen; omega, (fun h => by cases h), fun _ => ⟨g, 0, rfl, (Array.getElem?_eq_some_iff.1 h).1, fun j hj => ?_⟩⟩
  rw [Nat.zero_add, h.cell (by omega)]
  rw [List.getElem?_map, List.getElem?_eq_getElem (by omega)]
  simp [List.getD, List.getElem?_eq_getElem (show j < bs.length by omega)]

set_option maxHeartbeats 1600000 in
theorem awake_any (w : World) (hKc : Consts w) : Calls Tryd.prog 10 #[] w fun e w' => e = .returned (.bool true) ∧ Below w.heap.size w w' := by
  go_enter Tryd.func10, Tryd.ntmps10
  obtain ⟨i0, hi, hz0, hz1, hz2⟩ := info_parts infoU8
  go_wp2_with (at_make; (refine wpList_make_row _ rfl (.const (.int .i64 40)) (.const (.int .i64 40)) 22 rfl 5 i0 (.int .u8 0) Tryd.underlying22 hi hz0 hz1 rfl .i64 .i64 40 rfl rfl (by rw [hz2]; omega) (by omega) ?_))
  generalize hW : w.alloc _ = W
  obtain ⟨hO, hb0⟩ : Octs W w.heap.size 5 (List.replicate 40 0) ∧ Below w.heap.size w W := by
    subst hW
    rw [show madeCells #[Value.int .u8 0] 40 = ((List.replicate 40 (0 : UInt8)).map B8).toArray from by kernel_rfl]
    exact ⟨heap_alloc_new _ _, (Below.refl _ w).alloc (Nat.le_refl _) _⟩
  clear hW
  have hby := bytes_block hO (by simp) 40 (by simp)
  obtain ⟨b, hb⟩ : ∃ b, List.replicate 40 (0 : UInt8) = b := ⟨_, rfl⟩
  have hbl : b.length = 40 := by rw [← hb]; simp
  rw [hb] at hby
  clear hO hb
  refine (Blob_any _ b 16 W hby (hKc.of_new hb0)).mono ?_
  rintro e w2 ⟨rfl, hb2⟩
  have hr : mrightB (b.length : Int) 16 = true := by rw [hbl]; decide
  have hE : blobE b 16 = (⟨sumL b, 40, 16, rootL (leavesL b 16)⟩, 0) := by unfold blobE; rw [if_pos hr, hbl]; rfl
  rw [hE]
  have hok : (⟨sumL b, 40, 16, rootL (leavesL b 16)⟩ : BlobL).ok := ⟨sumL_len _, rootL_len (leavesL_32 _ _)⟩
  have hsz : (⟨sumL b, 40, 16, rootL (leavesL b 16)⟩ : BlobL).size = 40 := rfl
  have hpz : (⟨sumL b, 40, 16, rootL (leavesL b 16)⟩ : BlobL).piece = 16 := rfl
  have hbA := below_next hb0 hb2
  generalize (⟨sumL b, 40, 16, rootL (leavesL b 16)⟩ : BlobL) = y at *
  have hs2 := hbA.size
  have hm : mcountB 40 16 = 3 := by decide
  have h0 : ((0 : Int) == 0) = true := rfl
  dsimp only
  clear hr hE hb2 hby hbl
  go_wp2_with (first
    | ((with_reducible refine wpList_plain (o := ⟨none, Op.store 27 _ _, _, _, _, _⟩) rfl fun K hK => ?_); (refine wp_store_blob (.tmp 1) (.tmp 6) w2.heap.size y BlobL.zero rfl rfl rfl hok ⟨heap_alloc_new _ _, BlobL.zero_ok⟩ fun w3 hx3 hg3 hs3 => hK _ _ ?_); have hb3 : Below w2.heap.size w2 w3 := ((Below.refl _ w2).alloc (Nat.le_refl _) _).grown hg3 (by simp) (fun r e => by cases e; omega); have hsz3 := hx3.size; rw [hsz] at hsz3; have HX3 := Lib.hid hx3; have HB3 := Lib.hid hb3; clear hx3 hg3 hs3 hb3)
    | ((with_reducible refine wpList_met (o := ⟨some 16, _, _, _, _, _⟩) ?_ ?_); rfl; intro K hK; refine wp_load_blob (g := w2.heap.size) (x := y) rfl rfl HX3.out (hK _ _ ?_))
    | (go_at_call 21; refine (Count_any y _ hok).mono ?_; rintro e w4 ⟨rfl, hb4⟩; have HB4 := Lib.hid hb4; clear hb4; rw [hsz, hpz, hm]))
  go_ret
  exact ⟨rfl, below_next (below_next hbA HB3.out) HB4.out⟩

end Go.Proofs.YtnomekfemadpeaaDoor
