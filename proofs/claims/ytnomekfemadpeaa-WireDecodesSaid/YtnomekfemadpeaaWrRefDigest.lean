/- The walk of the reference's digest: 32 bytes as a hash. Condition: the bytes are 32. -/
import Derived.Test.YtnomekfemadpeaaGb
namespace Go.Proofs.Ytnomekfemadpeaa
open Go.RowKit
set_option linter.unusedVariables false
set_option linter.unusedSimpArgs false
set_option maxRecDepth 100000

set_option maxHeartbeats 1600000 in
theorem rdigest_any (v : Value) (b : List UInt8) (w : World) (hl : Bytes w v b) (h32 : b.length = 32) :
    Calls Try.prog 36 #[v] w fun e w' => e = .returned (.agg (b.map B8).toArray) ∧ Below w.heap.size w w' := by
  obtain ⟨bb, off, c, hv, hbb, hc⟩ := hl.cell (by omega)
  subst hv
  rw [h32]
  have HC := Lib.hid hc
  have H32 := Lib.hid h32
  have hlc : 32 ≤ c := by
    obtain ⟨_, a', c', hv, hn, _⟩ := hl
    cases hv; omega
  clear hl hc h32
  go_enter Try.func36, Try.ntmps36
  go_wp2_with (first
    | ((with_reducible refine wpList_plain (o := ⟨some 2, Op.alloc _, _, _, _, _⟩) rfl fun K hK => ?_); (refine wp_alloc_dig rfl fun w1 h1 hb1 hs1 => hK _ _ ?_); have H1 := Lib.hid h1; have HB1 := Lib.hid hb1; have HS1 := Lib.hid hs1; clear h1 hb1 hs1)
    | ((with_reducible refine wpList_plain (o := ⟨some 3, Op.alloc _, _, _, _, _⟩) rfl fun K hK => ?_); (refine wp_alloc_dig rfl fun w2 h2 hb2 hs2 => hK _ _ ?_); rw [HS1.out] at h2 hs2 ⊢; have H2 := Lib.hid h2; have HB2 := Lib.hid hb2; have HS2 := Lib.hid hs2; have H12 := Lib.hid (H1.out.of_new hb2); clear h2 hb2 hs2))
  go_loopw [4] (fun iv W => ∃ k : Nat, k ≤ 32 ∧ iv = .int .i64 k ∧ DigO W w.heap.size dig0 ∧ DigO W (w.heap.size + 1) (filled b k) ∧ Below w.heap.size w W) (fun iv _ => 32 - (intOf iv).toNat)
  case atStart => exact ⟨0, Nat.zero_le _, rfl, H12.out, by rw [filled_zero]; exact H2.out, below_next HB1.out HB2.out⟩
  case round =>
    obtain ⟨k, hk, rfl, hd1, hd2, hb⟩ := hrel
    by_cases hlt : k < 32
    · have hci := (hb.cell (p := ⟨bb, off + k, none⟩) hbb).trans (HC.out k (by rw [H32.out]; exact hlt))
      have hst := filled_step H32.out hlt
      have hc2 := hd2.cell hlt
      have hf2 := hd2.free k
      obtain ⟨x, hx⟩ : ∃ x, b.getD k 0 = x := ⟨_, rfl⟩
      rw [hx] at hci hst
      unfold B8 at hci hc2
      have HST := Lib.hid hst
      have HD1 := Lib.hid hd1
      have HD2 := Lib.hid hd2
      have HB := Lib.hid hb
      have hki : (k : Int) < 32 := by omega
      clear hst hd1 hd2 hb hx
      go_wp2
      go_roundw
      case rel =>
        refine ⟨k + 1, by omega, by go_num, HD1.out.of_block (Below.heap_setCell _ _ _ _ (by show w.heap.size ≠ w.heap.size + 1; omega)), ?_, HB.out.setCell (p := ⟨w.heap.size + 1, k, none⟩) (by show w.heap.size ≤ w.heap.size + 1; omega) _⟩
        rw [← HST.out]
        exact HD2.out.set k x
      case measure => simp [intOf]; omega
    · obtain rfl : k = 32 := by omega
      rw [filled_all H32.out] at hd2
      have HD1 := Lib.hid hd1
      have HD2 := Lib.hid hd2
      have HB := Lib.hid hb
      clear hd1 hd2 hb
      go_wp2_with (first
        | ((with_reducible refine wpList_plain (o := ⟨some 15, Op.load _ _, _, _, _, _⟩) rfl fun K hK => ?_); (refine wp_load_at (ty := 23) (x := .tmp 3) rfl rfl HD2.out.at_ (hK _ _ ?_)))
        | ((with_reducible refine wpList_plain (o := ⟨none, Op.store _ (.tmp 2) (.tmp 15), _, _, _, _⟩) rfl fun K hK => ?_); (refine wp_store_dig (.tmp 2) (.tmp 15) w.heap.size b dig0 rfl rfl rfl H32.out HD1.out fun w3 h3 hg3 hs3 => hK _ _ ?_); have H3 := Lib.hid h3; have HG3 := Lib.hid hg3; clear h3 hg3 hs3))
      refine bodyPost_ret (results_dig rfl _ rfl H3.out) rfl ?_
      exact ⟨rfl, HB.out.grown HG3.out (by have := HB.out.size; omega) (fun k e => by cases e; omega)⟩

end Go.Proofs.Ytnomekfemadpeaa
