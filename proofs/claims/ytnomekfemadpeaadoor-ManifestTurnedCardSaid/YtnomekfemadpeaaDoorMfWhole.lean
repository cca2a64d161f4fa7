/- The walks of Whole, of manifest and of the document's answer: whether bytes are all. Conditions: the table of constants as the program lays it (manifest's). -/
import Derived.Test.YtnomekfemadpeaaDoorMfBlobFn
namespace Go.Proofs.YtnomekfemadpeaaDoor
open Go.RowKit
set_option linter.unusedVariables false
set_option linter.unusedSimpArgs false
set_option maxRecDepth 100000

def wholeB (x : BlobL) (b : List UInt8) : Bool := decide ((blobE b x.piece).2 = 0) && decide (x = (blobE b x.piece).1)

set_option maxHeartbeats 1600000 in
theorem Whole_any (x : BlobL) (v : Value) (b : List UInt8) (w : World) (hx : x.ok) (hl : Bytes w v b) (hKc : Consts w) :
    Calls Tryd.prog 16 #[BlobV x, v] w fun e w' => e = .returned (.bool (wholeB x b)) ∧ Below w.heap.size w w' := by
  obtain ⟨va, vc, hv⟩ := hl.len
  subst hv
  have HL := Lib.hid hl
  clear hl
  rw [show BlobV x = .agg x.cells.toArray from rfl]
  obtain ⟨E, hE⟩ : ∃ E, wholeB x b = E := ⟨_, rfl⟩
  rw [hE]
  have HE := Lib.hid hE
  clear hE
  go_enter Tryd.func16, Tryd.ntmps16
  go_upto_region 1 with (fail)
  obtain ⟨W, hW⟩ : ∃ W, w.alloc (.cells x.cells.toArray 27) = W := ⟨_, rfl⟩
  have hbo := blob_alloc w hx
  have hb0 : Below w.heap.size w (w.alloc (.cells x.cells.toArray 27)) := (Below.refl _ w).alloc (Nat.le_refl _) _
  rw [hW] at hbo hb0 ⊢
  have hp := hbo.piece
  have hgl := hbo.lt
  clear hW
  go_wp2_with fail
  refine (Blob_any _ b x.piece W (HL.out.of_new hb0) (hKc.of_new hb0)).mono ?_
  rintro e w2 ⟨rfl, hb2⟩
  have hbA := below_next hb0 hb2
  have HBO := Lib.hid (hbo.of_new hb2)
  have hok := blobE_ok b x.piece
  have hew : wholeB x b = (decide ((blobE b x.piece).2 = 0) && decide (x = (blobE b x.piece).1)) := rfl
  have HEW := Lib.hid (hew.symm.trans HE.out)
  clear hew hbo hb2 hp
  generalize hB : blobE b x.piece = B at *
  obtain ⟨y, i⟩ := B
  dsimp only at hok HEW ⊢
  have hqe := run_eql_blob x y hx hok
  have hgb := fun p q w' => run_guard_blob p q x y w'
  have hs2 := hbA.size
  by_cases hi : i = 0
  · subst hi
    have h0 : ((0 : Int) == 0) = true := rfl
    go_wp2_with (first
      | ((with_reducible refine wpList_plain (o := ⟨none, Op.store 27 _ _, _, _, _, _⟩) rfl fun K hK => ?_); (refine wp_store_blob (.tmp 5) (.tmp 12) w2.heap.size y BlobL.zero rfl rfl rfl hok ⟨heap_alloc_new _ _, BlobL.zero_ok⟩ fun w3 hx3 hg3 hs3 => hK _ _ ?_); have hb3 : Below w2.heap.size w2 w3 := ((Below.refl _ w2).alloc (Nat.le_refl _) _).grown hg3 (by simp) (fun r e => by cases e; omega); have HX3 := Lib.hid hx3; have HB3 := Lib.hid hb3; clear hx3 hg3 hs3 hb3)
      | ((with_reducible refine wpList_met (o := ⟨some 17, _, _, _, _, _⟩) ?_ ?_); rfl; intro K hK; refine wp_load_blob (g := w.heap.size) (x := x) rfl rfl (HBO.out.of_new HB3.out) (hK _ _ ?_))
      | ((with_reducible refine wpList_met (o := ⟨some 18, _, _, _, _, _⟩) ?_ ?_); rfl; intro K hK; refine wp_load_blob (g := w2.heap.size) (x := y) rfl rfl HX3.out (hK _ _ ?_)))
    go_ret
    exact ⟨ret_bool (by rw [← HEW.out]; simp), below_next hbA HB3.out⟩
  · have h0 : (i == 0) = false := by simp [hi]
    have HE2 : Hid (E = false) := Lib.hid (by rw [← HEW.out]; simp [hi])
    clear hi
    go_wp2_with ((with_reducible refine wpList_plain (o := ⟨none, Op.store 27 _ _, _, _, _, _⟩) rfl fun K hK => ?_); (refine wp_store_blob (.tmp 5) (.tmp 12) w2.heap.size y BlobL.zero rfl rfl rfl hok ⟨heap_alloc_new _ _, BlobL.zero_ok⟩ fun w3 hx3 hg3 hs3 => hK _ _ ?_); have hb3 : Below w2.heap.size w2 w3 := ((Below.refl _ w2).alloc (Nat.le_refl _) _).grown hg3 (by simp) (fun r e => by cases e; omega); have HX3 := Lib.hid hx3; have HB3 := Lib.hid hb3; clear hx3 hg3 hs3 hb3)
    go_ret
    exact ⟨ret_bool (by rw [HE2.out]), below_next hbA HB3.out⟩

set_option maxHeartbeats 1600000 in
theorem RWhole_any (x : BlobL) (v : Value) (b : List UInt8) (w : World) (hx : x.ok) (hl : Bytes w v b) :
    Calls Tryd.prog 23 #[BlobV x, v] w fun e w' => e = .returned (.bool (wholeB x b)) ∧ Below w.heap.size w w' := by
  obtain ⟨va, vc, hv⟩ := hl.len
  subst hv
  have HL := Lib.hid hl
  clear hl
  rw [show BlobV x = .agg x.cells.toArray from rfl]
  obtain ⟨E, hE⟩ : ∃ E, wholeB x b = E := ⟨_, rfl⟩
  rw [hE]
  have HE := Lib.hid hE
  clear hE
  go_enter Tryd.func23, Tryd.ntmps23
  go_upto_region 1 with (fail)
  obtain ⟨W, hW⟩ : ∃ W, w.alloc (.cells x.cells.toArray 27) = W := ⟨_, rfl⟩
  have hbo := blob_alloc w hx
  have hb0 : Below w.heap.size w (w.alloc (.cells x.cells.toArray 27)) := (Below.refl _ w).alloc (Nat.le_refl _) _
  rw [hW] at hbo hb0 ⊢
  have hp := hbo.piece
  have hgl := hbo.lt
  clear hW
  go_wp2_with fail
  refine (RBlob_any _ b x.piece W (HL.out.of_new hb0)).mono ?_
  rintro e w2 ⟨rfl, hb2⟩
  have hbA := below_next hb0 hb2
  have HBO := Lib.hid (hbo.of_new hb2)
  have hok := blobE_ok b x.piece
  have hew : wholeB x b = (decide ((blobE b x.piece).2 = 0) && decide (x = (blobE b x.piece).1)) := rfl
  have HEW := Lib.hid (hew.symm.trans HE.out)
  clear hew hbo hb2 hp
  generalize hB : blobE b x.piece = B at *
  obtain ⟨y, i⟩ := B
  dsimp only at hok HEW ⊢
  have hqe := run_eql_blob x y hx hok
  have hgb := fun p q w' => run_guard_blob p q x y w'
  have hs2 := hbA.size
  by_cases hi : i = 0
  · subst hi
    have h0 : ((0 : Int) == 0) = true := rfl
    go_wp2_with (first
      | ((with_reducible refine wpList_plain (o := ⟨none, Op.store 27 _ _, _, _, _, _⟩) rfl fun K hK => ?_); (refine wp_store_blob (.tmp 5) (.tmp 12) w2.heap.size y BlobL.zero rfl rfl rfl hok ⟨heap_alloc_new _ _, BlobL.zero_ok⟩ fun w3 hx3 hg3 hs3 => hK _ _ ?_); have hb3 : Below w2.heap.size w2 w3 := ((Below.refl _ w2).alloc (Nat.le_refl _) _).grown hg3 (by simp) (fun r e => by cases e; omega); have HX3 := Lib.hid hx3; have HB3 := Lib.hid hb3; clear hx3 hg3 hs3 hb3)
      | ((with_reducible refine wpList_met (o := ⟨some 17, _, _, _, _, _⟩) ?_ ?_); rfl; intro K hK; refine wp_load_blob (g := w.heap.size) (x := x) rfl rfl (HBO.out.of_new HB3.out) (hK _ _ ?_))
      | ((with_reducible refine wpList_met (o := ⟨some 18, _, _, _, _, _⟩) ?_ ?_); rfl; intro K hK; refine wp_load_blob (g := w2.heap.size) (x := y) rfl rfl HX3.out (hK _ _ ?_)))
    go_ret
    exact ⟨ret_bool (by rw [← HEW.out]; simp), below_next hbA HB3.out⟩
  · have h0 : (i == 0) = false := by simp [hi]
    have HE2 : Hid (E = false) := Lib.hid (by rw [← HEW.out]; simp [hi])
    clear hi
    go_wp2_with ((with_reducible refine wpList_plain (o := ⟨none, Op.store 27 _ _, _, _, _, _⟩) rfl fun K hK => ?_); (refine wp_store_blob (.tmp 5) (.tmp 12) w2.heap.size y BlobL.zero rfl rfl rfl hok ⟨heap_alloc_new _ _, BlobL.zero_ok⟩ fun w3 hx3 hg3 hs3 => hK _ _ ?_); have hb3 : Below w2.heap.size w2 w3 := ((Below.refl _ w2).alloc (Nat.le_refl _) _).grown hg3 (by simp) (fun r e => by cases e; omega); have HX3 := Lib.hid hx3; have HB3 := Lib.hid hb3; clear hx3 hg3 hs3 hb3)
    go_ret
    exact ⟨ret_bool (by rw [HE2.out]), below_next hbA HB3.out⟩

end Go.Proofs.YtnomekfemadpeaaDoor
