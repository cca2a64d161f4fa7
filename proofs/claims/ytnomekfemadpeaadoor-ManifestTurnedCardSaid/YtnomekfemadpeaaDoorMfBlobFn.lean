/- The walks of Blob and Whole, of manifest and of the document's answer: what tells of any bytes, and whether bytes are all. Conditions: the table of constants as the program lays it (manifest's). -/
import Derived.Test.YtnomekfemadpeaaDoorMfLeavesFn
namespace Go.Proofs.YtnomekfemadpeaaDoor
open Go.RowKit
set_option linter.unusedVariables false
set_option linter.unusedSimpArgs false
set_option maxRecDepth 100000

/-- What Blob comes to. -/
def blobE (b : List UInt8) (k : Int) : BlobL × Int := if mrightB b.length k = true then (⟨sumL b, b.length, k, rootL (leavesL b k.toNat)⟩, 0) else (BlobL.zero, 1)
def BlobPost (w : World) (p : BlobL × Int) (e : Ending) (w' : World) : Prop := e = .returned (.tuple #[BlobV p.1, .int .i64 p.2]) ∧ Below w.heap.size w w'
theorem leaves_few {b : List UInt8} {k : Int} (h : mrightB b.length k = true) : (leavesL b k.toNat).length ≤ 1024 := by
  obtain ⟨q1, q2, q3, q4, q5⟩ := right_parts h
  obtain ⟨n, rfl⟩ : ∃ n : Nat, k = (n : Int) := ⟨k.toNat, by omega⟩
  have := count_nat (b := b) (n := n) (by omega)
  rw [leavesL_len, Int.toNat_natCast]; omega
theorem blobE_ok (b : List UInt8) (k : Int) : (blobE b k).1.ok := by
  unfold blobE
  split
  · exact ⟨sumL_len b, rootL_len (leavesL_32 _ _)⟩
  · exact BlobL.zero_ok

set_option maxHeartbeats 1600000 in
theorem Blob_any (v : Value) (b : List UInt8) (k : Int) (w : World) (hl : Bytes w v b) (hKc : Consts w) :
    Calls Tryd.prog 11 #[v, .int .i64 k] w (BlobPost w (blobE b k)) := by
  obtain ⟨va, vc, hv⟩ := hl.len
  subst hv
  have HL := Lib.hid hl
  clear hl
  obtain ⟨E, hE⟩ : ∃ E, blobE b k = E := ⟨_, rfl⟩
  rw [hE]
  have HE := Lib.hid hE
  clear hE
  go_enter Tryd.func11, Tryd.ntmps11
  go_wp2_with fail
  generalize hW : w.alloc _ = W
  obtain ⟨hbo, hb0⟩ : BlobO W w.heap.size BlobL.zero ∧ Below w.heap.size w W := by
    subst hW
    exact ⟨⟨heap_alloc_new _ _, BlobL.zero_ok⟩, (Below.refl _ w).alloc (Nat.le_refl _) _⟩
  clear hW
  refine (Leaves_any _ b k W (HL.out.of_new hb0) (hKc.of_new hb0)).mono ?_
  rintro e w2 ⟨v2, rfl, ho2, hb2⟩
  have hbA := below_next hb0 hb2
  have hbo2 := hbo.of_new hb2
  have hgl := hbo2.lt
  clear hbo hb2
  obtain ⟨a2, c2, hv2⟩ := ho2.digs.len
  subst hv2
  have HBO := Lib.hid hbo2
  clear hbo2
  rcases hr : mrightB b.length k with _ | _
  · have e : E = (BlobL.zero, 1) := by rw [← HE.out, blobE, hr]; rfl
    have el : leavesE b k = ([], 1) := by rw [leavesE, hr]; rfl
    rw [el] at ho2 ⊢
    have HE2 := Lib.hid e
    clear e el HE hr ho2
    go_wp2_with (first
      | ((with_reducible refine wpList_plain (o := ⟨some 16, Op.build 27 #[], _, _, _, _⟩) rfl fun K hK => wp_build_blob0 rfl (hK _ _ ?_)))
      | ((with_reducible refine wpList_plain (o := ⟨none, Op.store 27 _ _, _, _, _, _⟩) rfl fun K hK => wp_store_blob (.tmp 4) (.tmp 16) w.heap.size BlobL.zero BlobL.zero rfl rfl rfl BlobL.zero_ok HBO.out fun w3 hx3 hg3 hs3 => hK _ _ ?_)))
    refine bodyPost_ret (results_blob rfl _ rfl rfl hx3) rfl ?_
    rw [HE2.out]
    exact ⟨rfl, hbA.grown hg3 (by omega) (fun r e => by cases e; omega)⟩
  · have e : E = (⟨sumL b, b.length, k, rootL (leavesL b k.toNat)⟩, 0) := by rw [← HE.out, blobE, hr]; rfl
    have el : leavesE b k = (leavesL b k.toNat, 0) := by rw [leavesE, hr]; rfl
    have hle : (leavesL b k.toNat).length ≤ 1024 := leaves_few hr
    have hbl : b.length ≤ 1048576 := by have := (right_parts hr).2.1; omega
    rw [el] at ho2 ⊢
    have HE2 := Lib.hid e
    clear e el HE hr
    obtain ⟨L, hL⟩ : ∃ L, leavesL b k.toNat = L := ⟨_, rfl⟩
    rw [hL] at ho2 hle ⊢
    have HD32 : Dig32 L := hL ▸ leavesL_32 b _
    have HL2 := Lib.hid hL
    have HO2 := Lib.hid ho2.digs
    clear hL ho2
    go_wp2_with (first
      | (go_at_call 38; refine (Sum_any _ b _ (HL.out.of_new hbA) (by omega) (hKc.of_new hbA)).mono ?_; rintro e w3 ⟨rfl, hb3⟩; have HB3 := Lib.hid hb3; clear hb3)
      | (go_at_call 39; refine (Root_any _ L _ (HO2.out.of_new HB3.out) (by omega) (hKc.of_new (below_next hbA HB3.out))).mono ?_; rintro e w4 ⟨rfl, hb4⟩; have HB4 := Lib.hid hb4; clear hb4)
      | ((with_reducible refine wpList_plain (o := ⟨some 25, Op.build 27 _, _, _, _, _⟩) rfl fun K hK => ?_); (refine wp_build_blob (sumL b) (rootL L) (b.length : Int) k rfl rfl rfl rfl rfl (sumL_len b) ((rootL_len HD32)) (hK _ _ ?_)))
      | ((with_reducible refine wpList_plain (o := ⟨none, Op.store 27 _ _, _, _, _, _⟩) rfl fun K hK => ?_); (refine wp_store_blob (.tmp 4) (.tmp 25) w.heap.size ⟨sumL b, b.length, k, rootL L⟩ BlobL.zero rfl rfl rfl ⟨sumL_len b, (rootL_len HD32)⟩ ((HBO.out.of_new HB3.out).of_new HB4.out) fun w5 hx5 hg5 hs5 => hK _ _ ?_)))
    refine bodyPost_ret (results_blob rfl _ rfl rfl hx5) rfl ?_
    rw [HE2.out, HL2.out]
    have hbB := below_next (below_next hbA HB3.out) HB4.out
    exact ⟨rfl, hbB.grown hg5 (by have := hbB.size; omega) (fun r e => by cases e; omega)⟩

set_option maxHeartbeats 1600000 in
theorem RBlob_any (v : Value) (b : List UInt8) (k : Int) (w : World) (hl : Bytes w v b) :
    Calls Tryd.prog 12 #[v, .int .i64 k] w (BlobPost w (blobE b k)) := by
  obtain ⟨va, vc, hv⟩ := hl.len
  subst hv
  have HL := Lib.hid hl
  clear hl
  obtain ⟨E, hE⟩ : ∃ E, blobE b k = E := ⟨_, rfl⟩
  rw [hE]
  have HE := Lib.hid hE
  clear hE
  go_enter Tryd.func12, Tryd.ntmps12
  go_wp2_with fail
  generalize hW : w.alloc _ = W
  obtain ⟨hbo, hb0⟩ : BlobO W w.heap.size BlobL.zero ∧ Below w.heap.size w W := by
    subst hW
    exact ⟨⟨heap_alloc_new _ _, BlobL.zero_ok⟩, (Below.refl _ w).alloc (Nat.le_refl _) _⟩
  clear hW
  refine (RLeaves_any _ b k W (HL.out.of_new hb0)).mono ?_
  rintro e w2 ⟨v2, rfl, ho2, hb2⟩
  have hbA := below_next hb0 hb2
  have hbo2 := hbo.of_new hb2
  have hgl := hbo2.lt
  clear hbo hb2
  obtain ⟨a2, c2, hv2⟩ := ho2.digs.len
  subst hv2
  have HBO := Lib.hid hbo2
  clear hbo2
  rcases hr : mrightB b.length k with _ | _
  · have e : E = (BlobL.zero, 1) := by rw [← HE.out, blobE, hr]; rfl
    have el : leavesE b k = ([], 1) := by rw [leavesE, hr]; rfl
    rw [el] at ho2 ⊢
    have HE2 := Lib.hid e
    clear e el HE hr ho2
    go_wp2_with (first
      | ((with_reducible refine wpList_plain (o := ⟨some 16, Op.build 27 #[], _, _, _, _⟩) rfl fun K hK => wp_build_blob0 rfl (hK _ _ ?_)))
      | ((with_reducible refine wpList_plain (o := ⟨none, Op.store 27 _ _, _, _, _, _⟩) rfl fun K hK => wp_store_blob (.tmp 4) (.tmp 16) w.heap.size BlobL.zero BlobL.zero rfl rfl rfl BlobL.zero_ok HBO.out fun w3 hx3 hg3 hs3 => hK _ _ ?_)))
    refine bodyPost_ret (results_blob rfl _ rfl rfl hx3) rfl ?_
    rw [HE2.out]
    exact ⟨rfl, hbA.grown hg3 (by omega) (fun r e => by cases e; omega)⟩
  · have e : E = (⟨sumL b, b.length, k, rootL (leavesL b k.toNat)⟩, 0) := by rw [← HE.out, blobE, hr]; rfl
    have el : leavesE b k = (leavesL b k.toNat, 0) := by rw [leavesE, hr]; rfl
    have hle : (leavesL b k.toNat).length ≤ 1024 := leaves_few hr
    have hbl : b.length ≤ 1048576 := by have := (right_parts hr).2.1; omega
    rw [el] at ho2 ⊢
    have HE2 := Lib.hid e
    clear e el HE hr
    obtain ⟨L, hL⟩ : ∃ L, leavesL b k.toNat = L := ⟨_, rfl⟩
    rw [hL] at ho2 hle ⊢
    have HD32 : Dig32 L := hL ▸ leavesL_32 b _
    have HL2 := Lib.hid hL
    have HO2 := Lib.hid ho2.digs
    clear hL ho2
    go_wp2_with (first
      | (go_at_call 40; refine (RSum_any _ b _ (HL.out.of_new hbA) (by omega)).mono ?_; rintro e w3 ⟨rfl, hb3⟩; have HB3 := Lib.hid hb3; clear hb3)
      | (go_at_call 41; refine (RRoot_any _ L _ (HO2.out.of_new HB3.out) (by omega)).mono ?_; rintro e w4 ⟨rfl, hb4⟩; have HB4 := Lib.hid hb4; clear hb4)
      | ((with_reducible refine wpList_plain (o := ⟨some 25, Op.build 27 _, _, _, _, _⟩) rfl fun K hK => ?_); (refine wp_build_blob (sumL b) (rootL L) (b.length : Int) k rfl rfl rfl rfl rfl (sumL_len b) ((rootL_len HD32)) (hK _ _ ?_)))
      | ((with_reducible refine wpList_plain (o := ⟨none, Op.store 27 _ _, _, _, _, _⟩) rfl fun K hK => ?_); (refine wp_store_blob (.tmp 4) (.tmp 25) w.heap.size ⟨sumL b, b.length, k, rootL L⟩ BlobL.zero rfl rfl rfl ⟨sumL_len b, (rootL_len HD32)⟩ ((HBO.out.of_new HB3.out).of_new HB4.out) fun w5 hx5 hg5 hs5 => hK _ _ ?_)))
    refine bodyPost_ret (results_blob rfl _ rfl rfl hx5) rfl ?_
    rw [HE2.out, HL2.out]
    have hbB := below_next (below_next hbA HB3.out) HB4.out
    exact ⟨rfl, hbB.grown hg5 (by have := hbB.size; omega) (fun r e => by cases e; omega)⟩

end Go.Proofs.YtnomekfemadpeaaDoor
