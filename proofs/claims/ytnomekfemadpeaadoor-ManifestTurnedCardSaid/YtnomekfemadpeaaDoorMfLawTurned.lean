/- The walk of the law ManifestTurned: it answers true. Condition: the table of constants as the program lays it. -/
import Derived.Test.YtnomekfemadpeaaDoorMfOwn8
namespace Go.Proofs.YtnomekfemadpeaaDoor
open Go.RowKit
set_option linter.unusedVariables false
set_option linter.unusedSimpArgs false
set_option maxRecDepth 100000

set_option maxHeartbeats 6400000 in
theorem ManifestTurned_walk (v : Value) (b : List UInt8) (k x0 x1 : Int) (w : World) (hl : Bytes w v b) (hk1 : -9223372036854775808 ≤ k) (hk2 : k ≤ 9223372036854775807)
    (n1 : -9223372036854775808 ≤ x0) (n2 : x0 ≤ 9223372036854775807) (i1 : -9223372036854775808 ≤ x1) (i2 : x1 ≤ 9223372036854775807) (hKc : Consts w) :
    Calls Tryd.prog 4 #[v, .int .i64 k, .agg #[.int .i64 x0, .int .i64 x1]] w fun e w' => e = .returned (.bool true) ∧ Below w.heap.size w w' := by
  obtain ⟨i0, hi, hz0, hz1, hz2⟩ := info_parts infoU8
  obtain ⟨va, vc, hv⟩ := hl.len
  subst hv
  have hle := hl.le
  have HL := Lib.hid hl
  clear hl
  obtain ⟨W1, hW1⟩ : ∃ W1, W1 = w.alloc (.cells #[.int .i64 x0, .int .i64 x1] 36) := ⟨_, rfl⟩
  have hbx : Below w.heap.size w W1 ∧ W1.heap[w.heap.size]? = some (.cells #[.int .i64 x0, .int .i64 x1] 36 (0, 0)) := by
    subst hW1
    exact ⟨(Below.refl _ w).alloc (Nat.le_refl _) _, heap_alloc_new _ _⟩
  have HW := Lib.hid hW1
  clear hW1
  go_enter Tryd.func4, Tryd.ntmps4
  go_wp2_with fail
  rw [← HW.out]
  obtain ⟨hb1, hc⟩ := hbx
  clear HW
  refine (awake_any W1 (hKc.of_new hb1)).mono ?_
  rintro e w2 ⟨rfl, hb2⟩
  have hlt : w.heap.size < W1.heap.size := (Array.getElem?_eq_some_iff.1 hc).1
  have HC := Lib.hid ((hb2.block _ hlt).trans hc)
  have hB2 := below_next hb1 hb2
  have hlt2 := hb2.size
  clear hb1 hb2 hc
  have k0 : w2.cell? ⟨w.heap.size, 0, none⟩ = some (.int .i64 x0) := by simp [World.cell?, HC.out]
  have k1 : w2.cell? ⟨w.heap.size, 1, none⟩ = some (.int .i64 x1) := by simp [World.cell?, HC.out]
  by_cases c1 : b.length = 0
  · have t0 : ((b.length : Int) == 0) = true := beq_iff_eq.2 (by omega)
    go_wp2
    go_ret
    exact ⟨rfl, hB2⟩
  have t0 : ((b.length : Int) == 0) = false := beq_eq_false_iff_ne.2 (by omega)
  by_cases c2 : (5000 : Int) < b.length
  · go_wp2
    go_ret
    exact ⟨rfl, hB2⟩
  by_cases c3 : x0 < 0
  · go_wp2
    go_ret
    exact ⟨rfl, hB2⟩
  by_cases c4 : (x1 % 256 == 0) = true
  · go_wp2
    go_ret
    exact ⟨rfl, hB2⟩
  replace c4 : (x1 % 256 == 0) = false := by simpa using c4
  go_wp2_with fail
  refine (Blob_any _ b k w2 (HL.out.of_new hB2) (hKc.of_new hB2)).mono ?_
  rintro e w3 ⟨rfl, hb3⟩
  have hB3 := below_next hB2 hb3
  have HC3 := Lib.hid ((hb3.block _ (by omega)).trans HC.out)
  have hs3 := hb3.size
  clear k0 k1 HC hb3 hB2
  rcases hr : mrightB b.length k with _ | _
  · have hE : blobE b k = (BlobL.zero, 1) := by unfold blobE; rw [hr]; rfl
    rw [hE]
    clear hE hr
    go_wp2_with (first
      | ((with_reducible refine wpList_plain (o := ⟨none, Op.store 27 (.tmp 8) _, _, _, _, _⟩) rfl fun K hK => ?_); (refine wp_store_blob (.tmp 8) (.tmp 43) w3.heap.size BlobL.zero BlobL.zero rfl rfl rfl BlobL.zero_ok ⟨heap_alloc_new _ _, BlobL.zero_ok⟩ fun w4 hx4 hg4 hs4 => hK _ _ ?_); have hb4 : Below w3.heap.size w3 w4 := ((Below.refl _ w3).alloc (Nat.le_refl _) _).grown hg4 (by simp) (fun r e => by cases e; omega); have HB4 := Lib.hid hb4; clear hx4 hg4 hs4 hb4))
    go_ret
    exact ⟨rfl, below_next hB3 HB4.out⟩
  have hE : blobE b k = (⟨sumL b, b.length, k, rootL (leavesL b k.toNat)⟩, 0) := by unfold blobE; rw [hr]; rfl
  have hok := blobE_ok b k
  have hfew := leaves_few hr
  rw [hE] at hok ⊢
  obtain ⟨y, hy⟩ : ∃ y : BlobL, (⟨sumL b, b.length, k, rootL (leavesL b k.toNat)⟩ : BlobL) = y := ⟨_, rfl⟩
  rw [hy] at hok ⊢
  have HY := Lib.hid hy
  have HR := Lib.hid hr
  clear hy hr hE hfew
  dsimp only at hok ⊢
  have hbl : b.length ≤ 5000 := by omega
  go_wp2_with (first
    | ((with_reducible refine wpList_plain (o := ⟨none, Op.store 27 (.tmp 8) _, _, _, _, _⟩) rfl fun K hK => ?_); (refine wp_store_blob (.tmp 8) (.tmp 43) w3.heap.size y BlobL.zero rfl rfl rfl hok ⟨heap_alloc_new _ _, BlobL.zero_ok⟩ fun w4 hx4 hg4 hs4 => hK _ _ ?_); have hb4 : Below w3.heap.size w3 w4 := ((Below.refl _ w3).alloc (Nat.le_refl _) _).grown hg4 (by simp) (fun r e => by cases e; omega); have HX4 := Lib.hid hx4; have HB4 := Lib.hid hb4; have HL4 := fun o => Lib.hid ((HL.out.of_new (below_next hB3 hb4)).of_alloc o); clear hx4 hg4 hs4 hb4 hK)
    | (at_builtin; refine wpList_app8 rfl (.tmp 49) (.tmp 50) 22 rfl w4.heap.size 5 i0 Tryd.underlying22 hi hz0 hz1 hz2 _ [] rfl (own8_empty w4) _ b rfl (HL4 _).out ?c1 ?c2 ?_))
  case c1 => first | omega | (simp; omega)
  case c2 => simp
  intro v5 w5 ho5 hg5 _
  have hb5 : Below w4.heap.size w4 w5 := ((Below.refl _ w4).alloc (Nat.le_refl _) _).grown hg5 (by simp) (fun j hj => by cases hj; exact Nat.le_refl _)
  have hB4 := below_next hB3 HB4.out
  have hB5 := below_next hB4 hb5
  have HX5 := Lib.hid (HX4.out.of_new hb5)
  have hs4 := HB4.out.size
  have hs5 := hb5.size
  have HC5 := Lib.hid ((hb5.block _ (by omega)).trans ((HB4.out.block _ (by omega)).trans HC3.out))
  have hxl := HX4.out.lt
  clear hg5 HL4 HB4 HX4 hb5 hB4 HC3
  obtain ⟨g, cap, hv, hgl, hgs⟩ := ho5.block (by omega)
  subst hv
  have hc0 : (w5.cell? ⟨w.heap.size, 0, none⟩) = some (.int .i64 x0) := by simp [World.cell?, HC5.out]
  have hc1 : (w5.cell? ⟨w.heap.size, 1, none⟩) = some (.int .i64 x1) := by simp [World.cell?, HC5.out]
  obtain ⟨p, hp⟩ : ∃ p : Nat, x0 % (b.length : Int) = (p : Int) := ⟨(x0 % (b.length : Int)).toNat, by have := Int.emod_nonneg x0 (show (b.length : Int) ≠ 0 by omega); omega⟩
  have hpl : p < b.length := by have := Int.emod_lt_of_pos x0 (show (0 : Int) < (b.length : Int) by omega); omega
  have htm : x0.tmod (b.length : Int) = (p : Int) := by rw [Int.tmod_eq_emod_of_nonneg (by omega)]; exact hp
  have hcp := ho5.cellAt rfl hpl
  have hfp := ho5.frozenAt rfl p
  unfold B8 at hcp
  have q0 := fun w' (hw' : Grew w5 w') => hw'.cell hc0
  have q1 := fun w' (hw' : Grew w5 w') => hw'.cell hc1
  have q2 := fun w' (hw' : Grew w5 w') => hw'.cell hcp
  have hp1 : (p : Int) < (b.length : Int) := by omega
  have hp0 : (0 : Int) ≤ (p : Int) := by omega
  have HO5 := Lib.hid ho5
  have HHP := Lib.hid hp
  have HC2 := Lib.hid hc0
  have HCP := Lib.hid hcp
  have HFP := Lib.hid hfp
  clear hc0 hc1 hcp hfp ho5 hp
  go_upto_region 8 with (fail)
  refine wp_region_grew_tail 13 (by kernel_rfl) (by kernel_rfl) ?_
  simp only [List.take_succ_cons, List.take_zero, List.drop_succ_cons, List.drop_zero]
  repeat (first
    | (go_big_quiet_want; (with_reducible apply quiet_load_at (ty := 25) (x := .tmp _)); rfl; rfl; assumption; go_simp; go_big_quiet_on)
    | (go_big_quiet_want; apply quiet_val; (intro w' hw'; go_simp; first | done | rfl); go_simp; go_big_quiet_on)
    | (go_big_quiet_skip))
  refine wpQuiet_nil ?_
  intro w6 hw6
  have ho6 := HO5.out.new hw6
  have hcp6 := hw6.cell HCP.out
  have hfp6 := ho6.frozenAt rfl p
  have HO6 := Lib.hid ho6
  have hs6 := Below.size hw6
  have HX6 := Lib.hid (HX5.out.of_new hw6)
  have hB6 := below_next hB5 hw6
  clear ho6 q0 q1 q2 hw6 HX5 hB5
  go_upto_region 9 with (fail)
  generalize hW7 : World.setCell w6 _ _ = w7
  obtain ⟨z, ho7, hg7⟩ : ∃ z : UInt8, Own8 w7 w4.heap.size 5 (.slice (some ⟨g, 0, none⟩) b.length cap) (b.set p z) ∧ w6.grownBy w7 (some g) := by
    subst hW7
    obtain ⟨z, hz⟩ := xor_B8 (b[p].toNat : Int) (x1 % 256)
    refine ⟨z, ?_⟩
    rw [hz]
    exact HO6.out.set rfl p z
  clear hW7 hcp6 hfp6 HO5 HCP HFP
  obtain ⟨c, hcd⟩ : ∃ c, b.set p z = c := ⟨_, rfl⟩
  have hcl : c.length = b.length := by rw [← hcd]; simp
  rw [hcd] at ho7
  clear hcd
  have hb7 : Below w6.heap.size w6 w7 ∨ True := .inr trivial
  have hB7 := hB6.grown hg7 hB6.size (fun j e => by cases e; omega)
  have HX7 := Lib.hid (HX6.out.of_block (hg7.block _ HX6.out.lt (fun e => by have := Option.some.inj e; omega)))
  have HBY := Lib.hid ho7.bytes
  clear hb7 hg7 HX6 HO6 hB6 ho7
  have hE : blobE c k = (⟨sumL c, b.length, k, rootL (leavesL c k.toNat)⟩, 0) := by unfold blobE; rw [hcl, HR.out]; rfl
  have hok2 := blobE_ok c k
  rw [hE] at hok2
  have hBc := Blob_any (.slice (some ⟨g, 0, none⟩) b.length cap) c k w7 HBY.out (hKc.of_new hB7)
  rw [hE] at hBc
  have hW1 : wholeB y c = (decide (sumL b = sumL c) && decide (rootL (leavesL b k.toNat) = rootL (leavesL c k.toNat))) := by
    rw [← HY.out]
    unfold wholeB
    dsimp only
    rw [hE]
    simp [Bool.decide_and]
  have hW2 : wholeB ⟨sumL c, b.length, k, rootL (leavesL c k.toNat)⟩ c = true := by
    unfold wholeB
    dsimp only
    rw [hE]
    simp
  have hyd : y.dig = sumL b := by rw [← HY.out]
  have hyr : y.root = rootL (leavesL b k.toNat) := by rw [← HY.out]
  dsimp only at hok2 hBc
  generalize hr1 : rootL (leavesL b k.toNat) = r1 at *
  generalize hr2 : rootL (leavesL c k.toNat) = r2 at *
  generalize hs1 : sumL b = s1 at *
  generalize hs2 : sumL c = s2 at *
  have h32 := hok2.1
  have h32r := hok2.2
  have g32 := hok.1
  have g32r := hok.2
  dsimp only at h32 h32r
  rw [hyd] at g32
  rw [hyr] at g32r
  have hdy2 : (⟨s2, b.length, k, r2⟩ : BlobL).dig = s2 := rfl
  have hry2 : (⟨s2, b.length, k, r2⟩ : BlobL).root = r2 := rfl
  obtain ⟨y2, hy2⟩ : ∃ y2 : BlobL, (⟨s2, b.length, k, r2⟩ : BlobL) = y2 := ⟨_, rfl⟩
  rw [hy2] at hok2 hBc hW2 hdy2 hry2
  have heq1 := run_eql_dig s1 s2 g32 h32
  have heq2 := run_eql_dig r1 r2 g32r h32r
  have hgd := guard_dig
  have HYD := Lib.hid hyd
  have HYR := Lib.hid hyr
  have HYD2 := Lib.hid hdy2
  have HYR2 := Lib.hid hry2
  have HE := Lib.hid hE
  have HCL := Lib.hid hcl
  have hs7 := HX7.out.lt
  clear hr1 hr2 hs1 hs2 hy2 hE hyd hyr hdy2 hry2 hcl h32 h32r g32 g32r
  go_wp2_with fail
  refine hBc.mono ?_
  rintro e w8 ⟨rfl, hb8⟩
  have HX8 := Lib.hid (HX7.out.of_new hb8)
  have HBY8 := Lib.hid (HBY.out.of_new hb8)
  have hB8 := below_next hB7 hb8
  have hs8 := hb8.size
  clear hBc hb8 HBY HX7
  go_upto_region 11 with (first
    | ((with_reducible refine wpList_plain (o := ⟨none, Op.store 27 (.tmp 11) _, _, _, _, _⟩) rfl fun K hK => ?_); (refine wp_store_blob (.tmp 11) (.tmp 69) w8.heap.size y2 BlobL.zero rfl rfl rfl hok2 ⟨heap_alloc_new _ _, BlobL.zero_ok⟩ fun w9 hx9 hg9 hs9 => hK _ _ ?_); have hb9 : Below w8.heap.size w8 w9 := ((Below.refl _ w8).alloc (Nat.le_refl _) _).grown hg9 (by simp) (fun r e => by cases e; omega); have HY9 := Lib.hid hx9; have HB9 := Lib.hid hb9; have HX9 := Lib.hid (HX8.out.of_new hb9); have d1 := HX9.out.dig; have d2 := HY9.out.dig; rw [HYD.out] at d1; rw [HYD2.out] at d2; clear hx9 hg9 hs9 hb9 hK)
    | ((with_reducible apply wpList_load_at (ty := 25) (x := .tmp _)); rfl; rfl; rfl; assumption))
  have r1' := HX9.out.root
  have r2' := HY9.out.root
  rw [HYR.out] at r1'
  rw [HYR2.out] at r2'
  have HBY9 := Lib.hid (HBY8.out.of_new HB9.out)
  have hB9 := below_next hB8 HB9.out
  have hWo := Whole_any y (.slice (some ⟨g, 0, none⟩) b.length cap) c w9 hok HBY9.out (hKc.of_new hB9)
  have HWo := Lib.hid hWo
  clear d1 d2 hWo
  clear HYD HYR HYD2 HYR2 HX8 HBY8 HB9 hB8
  have HX10 := HX9
  by_cases e1 : s1 = s2
  · by_cases e2 : r1 = r2
    · have hw1 : wholeB y c = true := by rw [hW1]; simp [e1, e2]
      rw [decide_eq_true e1] at heq1 ⊢
      rw [decide_eq_true e2] at heq2
      have HW1 := Lib.hid hw1
      have HW2 := Lib.hid hW2
      clear hw1 hW1 hW2 e1 e2
      go_wp2_with (first
        | ((with_reducible refine wpList_met (o := ⟨some 79, _, _, _, _, _⟩) ?_ ?_); rfl; intro K hK; refine wp_load_blob (g := w3.heap.size) (x := y) rfl rfl HX9.out (hK _ _ ?_))
        | ((with_reducible refine wpList_met (o := ⟨some 85, _, _, _, _, _⟩) ?_ ?_); rfl; intro K hK; refine wp_load_at (ty := 25) (x := .tmp 84) rfl rfl (r1'.of_new HBa.out) (hK _ _ ?_))
        | ((with_reducible refine wpList_met (o := ⟨some 87, _, _, _, _, _⟩) ?_ ?_); rfl; intro K hK; refine wp_load_at (ty := 25) (x := .tmp 86) rfl rfl (r2'.of_new HBa.out) (hK _ _ ?_))
        | ((with_reducible refine wpList_met (o := ⟨some 93, _, _, _, _, _⟩) ?_ ?_); rfl; intro K hK; refine wp_load_blob (g := w8.heap.size) (x := y2) rfl rfl (HY9.out.of_new HBa.out) (hK _ _ ?_))
        | ((with_reducible refine wpList_met (o := ⟨some 81, _, _, _, _, _⟩) ?_ ?_); rfl; intro K hK; go_simp; go_at_call 16; refine HWo.out.mono ?_; rintro e wa ⟨rfl, hba⟩; have HBa := Lib.hid hba; clear hba; rw [HW1.out])
        | ((with_reducible refine wpList_met (o := ⟨some 95, _, _, _, _, _⟩) ?_ ?_); rfl; intro K hK; go_simp; go_at_call 16; refine (Whole_any y2 (.slice (some ⟨g, 0, none⟩) b.length cap) c wa hok2 (HBY9.out.of_new HBa.out) (hKc.of_new (below_next hB9 HBa.out))).mono ?_; rintro e wb ⟨rfl, hbb⟩; have HBb := Lib.hid hbb; clear hbb; rw [HW2.out]))
      go_ret
      exact ⟨rfl, below_next (below_next hB9 HBa.out) HBb.out⟩
    · have hw1 : wholeB y c = false := by rw [hW1]; simp [e2]
      rw [decide_eq_true e1] at heq1 ⊢
      rw [decide_eq_false e2] at heq2
      have HW1 := Lib.hid hw1
      have HW2 := Lib.hid hW2
      clear hw1 hW1 hW2 e1 e2
      go_wp2_with (first
        | ((with_reducible refine wpList_met (o := ⟨some 79, _, _, _, _, _⟩) ?_ ?_); rfl; intro K hK; refine wp_load_blob (g := w3.heap.size) (x := y) rfl rfl HX9.out (hK _ _ ?_))
        | ((with_reducible refine wpList_met (o := ⟨some 85, _, _, _, _, _⟩) ?_ ?_); rfl; intro K hK; refine wp_load_at (ty := 25) (x := .tmp 84) rfl rfl (r1'.of_new HBa.out) (hK _ _ ?_))
        | ((with_reducible refine wpList_met (o := ⟨some 87, _, _, _, _, _⟩) ?_ ?_); rfl; intro K hK; refine wp_load_at (ty := 25) (x := .tmp 86) rfl rfl (r2'.of_new HBa.out) (hK _ _ ?_))
        | ((with_reducible refine wpList_met (o := ⟨some 93, _, _, _, _, _⟩) ?_ ?_); rfl; intro K hK; refine wp_load_blob (g := w8.heap.size) (x := y2) rfl rfl (HY9.out.of_new HBa.out) (hK _ _ ?_))
        | ((with_reducible refine wpList_met (o := ⟨some 81, _, _, _, _, _⟩) ?_ ?_); rfl; intro K hK; go_simp; go_at_call 16; refine HWo.out.mono ?_; rintro e wa ⟨rfl, hba⟩; have HBa := Lib.hid hba; clear hba; rw [HW1.out])
        | ((with_reducible refine wpList_met (o := ⟨some 95, _, _, _, _, _⟩) ?_ ?_); rfl; intro K hK; go_simp; go_at_call 16; refine (Whole_any y2 (.slice (some ⟨g, 0, none⟩) b.length cap) c wa hok2 (HBY9.out.of_new HBa.out) (hKc.of_new (below_next hB9 HBa.out))).mono ?_; rintro e wb ⟨rfl, hbb⟩; have HBb := Lib.hid hbb; clear hbb; rw [HW2.out]))
      go_ret
      exact ⟨rfl, below_next (below_next hB9 HBa.out) HBb.out⟩
  · have hw1 : wholeB y c = false := by rw [hW1]; simp [e1]
    rw [decide_eq_false e1] at heq1 ⊢
    have HW1 := Lib.hid hw1
    have HW2 := Lib.hid hW2
    clear hw1 hW1 hW2 e1 heq2
    go_wp2_with (first
      | ((with_reducible refine wpList_met (o := ⟨some 79, _, _, _, _, _⟩) ?_ ?_); rfl; intro K hK; refine wp_load_blob (g := w3.heap.size) (x := y) rfl rfl HX9.out (hK _ _ ?_))
      | ((with_reducible refine wpList_met (o := ⟨some 93, _, _, _, _, _⟩) ?_ ?_); rfl; intro K hK; refine wp_load_blob (g := w8.heap.size) (x := y2) rfl rfl (HY9.out.of_new HBa.out) (hK _ _ ?_))
      | ((with_reducible refine wpList_met (o := ⟨some 81, _, _, _, _, _⟩) ?_ ?_); rfl; intro K hK; go_simp; go_at_call 16; refine HWo.out.mono ?_; rintro e wa ⟨rfl, hba⟩; have HBa := Lib.hid hba; clear hba; rw [HW1.out])
      | ((with_reducible refine wpList_met (o := ⟨some 95, _, _, _, _, _⟩) ?_ ?_); rfl; intro K hK; go_simp; go_at_call 16; refine (Whole_any y2 (.slice (some ⟨g, 0, none⟩) b.length cap) c wa hok2 (HBY9.out.of_new HBa.out) (hKc.of_new (below_next hB9 HBa.out))).mono ?_; rintro e wb ⟨rfl, hbb⟩; have HBb := Lib.hid hbb; clear hbb; rw [HW2.out]))
    go_ret
    exact ⟨rfl, below_next (below_next hB9 HBa.out) HBb.out⟩

end Go.Proofs.YtnomekfemadpeaaDoor
