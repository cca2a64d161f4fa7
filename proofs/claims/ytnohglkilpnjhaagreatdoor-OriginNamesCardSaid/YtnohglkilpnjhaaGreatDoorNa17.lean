/- Texts of this claim, one behind the other: each begins with a comment that says what it proves and asks. -/
import Derived.Test.YtnohglkilpnjhaaGreatDoorNa16
import Derived.Deep.DeepCutAuto
import Derived.Deep.Cut
import Derived.Deep.QuietTactic
import Derived.BigQuiet
import Derived.IntWalk
/- The walks of wire's bare and fits: whether a message has nothing of an item, whether what it has may be; of the document's Right of a member. No condition. -/
namespace Go.Proofs.YtnohglkilpnjhaaGreatDoor
open Go.RowKit
set_option linter.unusedVariables false
set_option linter.unusedSimpArgs false
set_option maxRecDepth 100000

/-- A message boxed at a call's head. -/
theorem msg_boxed (w : World) {m : MsgL} {s : MsgS} (h : m.hash.length = 32) : ∃ W, w.alloc (.cells (msgCells m s).toArray 37) = W ∧ MsgO W w.heap.size m s ∧ Below w.heap.size w W :=
  ⟨_, rfl, msg_alloc w h, (Below.refl _ w).alloc (Nat.le_refl _) _⟩
theorem eqz (n : Nat) : ((n : Int) == 0) = decide (n = 0) := by
  rw [Bool.eq_iff_iff]; simp

set_option maxHeartbeats 3200000 in
theorem bare_any (m : MsgL) (s : MsgS) (i : Int) (w : World) (hm : MsgR w m s) (h1 : 1 ≤ i) (h2 : i ≤ 8) :
    Calls Tryz.prog 81 #[MsgV m s, .int .i64 i] w fun e w' => e = .returned (.bool (bareB m i)) ∧ Below w.heap.size w w' := by
  obtain ⟨W, hW, ho, hb⟩ := msg_boxed w (s := s) hm.hash
  rw [show MsgV m s = .agg (msgCells m s).toArray from rfl]
  obtain ⟨ai, ci, hi⟩ := hm.ids.len
  obtain ⟨ab, cb, hby⟩ := hm.bytes.len
  obtain ⟨ap, cp, hp⟩ := hm.proof.len
  obtain ⟨am, cm, hme⟩ := hm.members.len
  have e2 := ho.hash
  have e3 := ho.piece
  have e4 := ho.ids
  have e5 := ho.bytes
  have e6 := ho.proof
  have e7 := ho.members
  have e8 := ho.seed
  rw [hi] at e4
  rw [hby] at e5
  rw [hp] at e6
  rw [hme] at e7
  have h32 := hm.hash
  have hgd := guard_dig
  have heq := run_eql_dig m.hash zero32 h32 rfl
  rw [show (List.map B8 zero32).toArray = #[.int .u8 0, .int .u8 0, .int .u8 0, .int .u8 0, .int .u8 0, .int .u8 0, .int .u8 0, .int .u8 0, .int .u8 0, .int .u8 0, .int .u8 0, .int .u8 0, .int .u8 0, .int .u8 0, .int .u8 0, .int .u8 0, .int .u8 0, .int .u8 0, .int .u8 0, .int .u8 0, .int .u8 0, .int .u8 0, .int .u8 0, .int .u8 0, .int .u8 0, .int .u8 0, .int .u8 0, .int .u8 0, .int .u8 0, .int .u8 0, .int .u8 0, .int .u8 0] from rfl] at heq
  have HW := Lib.hid hW
  clear hW hm hi hby hp hme h32 ho
  rcases (show i = 1 ∨ i = 2 ∨ i = 3 ∨ i = 4 ∨ i = 5 ∨ i = 6 ∨ i = 7 ∨ i = 8 by omega) with rfl | rfl | rfl | rfl | rfl | rfl | rfl | rfl
  · clear e2 e3 e4 e5 e6 e7 e8 heq
    go_enter Tryz.func81, Tryz.ntmps81
    go_wp2
    go_ret
    rw [HW.out]
    exact ⟨rfl, hb⟩
  · clear e3 e4 e5 e6 e7 e8
    rw [show bareB m 2 = decide (m.hash = zero32) from rfl]
    generalize decide (m.hash = zero32) = z at *
    generalize m.hash = h at *
    go_enter Tryz.func81, Tryz.ntmps81
    go_upto_region 5 with (fail)
    rw [HW.out]
    go_wp2_with (first | ((with_reducible apply wpList_load_at (ty := 31) (x := .tmp _)); rfl; rfl; rfl; assumption))
    go_ret
    exact ⟨rfl, hb⟩
  · clear e2 e4 e5 e6 e7 e8 heq
    rw [show bareB m 3 = decide (m.piece = 0) from rfl]
    have hd : decide (m.piece = 0) = (m.piece == 0) := rfl
    rw [hd]
    generalize m.piece = n at *
    clear hd
    go_enter Tryz.func81, Tryz.ntmps81
    go_upto_region 7 with (fail)
    rw [HW.out]
    go_wp2
    go_ret
    exact ⟨rfl, hb⟩
  · clear e2 e3 e5 e6 e7 e8 heq
    rw [show bareB m 4 = decide (m.ids.length = 0) from rfl, ← eqz]
    generalize m.ids.length = n at *
    go_enter Tryz.func81, Tryz.ntmps81
    go_upto_region 9 with (fail)
    rw [HW.out]
    go_wp2
    go_ret
    exact ⟨rfl, hb⟩
  · clear e2 e3 e4 e6 e7 e8 heq
    rw [show bareB m 5 = decide (m.bytes.length = 0) from rfl, ← eqz]
    generalize m.bytes.length = n at *
    go_enter Tryz.func81, Tryz.ntmps81
    go_upto_region 11 with (fail)
    rw [HW.out]
    go_wp2
    go_ret
    exact ⟨rfl, hb⟩
  · clear e2 e3 e4 e5 e7 e8 heq
    rw [show bareB m 6 = decide (m.proof.length = 0) from rfl, ← eqz]
    generalize m.proof.length = n at *
    go_enter Tryz.func81, Tryz.ntmps81
    go_upto_region 13 with (fail)
    rw [HW.out]
    go_wp2
    go_ret
    exact ⟨rfl, hb⟩
  · clear e2 e3 e4 e5 e6 e8 heq
    rw [show bareB m 7 = decide (m.members.length = 0) from rfl, ← eqz]
    generalize m.members.length = n at *
    go_enter Tryz.func81, Tryz.ntmps81
    go_upto_region 15 with (fail)
    rw [HW.out]
    go_wp2
    go_ret
    exact ⟨rfl, hb⟩
  · clear e2 e3 e4 e5 e6 e7 heq
    rw [show bareB m 8 = !m.seed from rfl]
    generalize m.seed = n at *
    go_enter Tryz.func81, Tryz.ntmps81
    go_upto_region 16 with (fail)
    rw [HW.out]
    go_wp2
    go_ret
    exact ⟨rfl, hb⟩

set_option maxHeartbeats 3200000 in
theorem fits_any (m : MsgL) (s : MsgS) (i : Int) (w : World) (hm : MsgR w m s) (h1 : 1 ≤ i) (h2 : i ≤ 8) :
    Calls Tryz.prog 80 #[MsgV m s, .int .i64 i] w fun e w' => e = .returned (.bool (fitsB m i)) ∧ Below w.heap.size w w' := by
  obtain ⟨W, hW, ho, hb⟩ := msg_boxed w (s := s) hm.hash
  rw [show MsgV m s = .agg (msgCells m s).toArray from rfl]
  have hmW := hm.of_new hb
  have hi := hmW.ids
  have hme := hmW.members
  obtain ⟨ai, ci, hvi⟩ := hi.len
  obtain ⟨ab, cb, hvb⟩ := hm.bytes.len
  obtain ⟨ap, cp, hvp⟩ := hm.proof.len
  obtain ⟨am, cm, hvm⟩ := hme.len
  have e0 := ho.kind
  have e3 := ho.piece
  have e4 := ho.ids
  have e5 := ho.bytes
  have e6 := ho.proof
  have e7 := ho.members
  have hls := ho.lt
  rw [hvi] at e4 hi
  rw [hvb] at e5
  rw [hvp] at e6
  rw [hvm] at e7 hme
  have HW := Lib.hid hW
  have HI := Lib.hid hi
  have HM := Lib.hid hme
  clear hW hm hmW hvi hvb hvp hvm ho hi hme
  have hbF : Below w.heap.size w (W.alloc (.cells #[.func (.func 127) #[] #[]] 130)) := hb.alloc hb.size _
  have hbG : Below W.heap.size W (W.alloc (.cells #[.func (.func 127) #[] #[]] 130)) := (Below.refl _ _).alloc (Nat.le_refl _) _
  rcases (show i = 3 ∨ i = 4 ∨ i = 5 ∨ i = 6 ∨ i = 7 ∨ (i = 1 ∨ i = 2 ∨ i = 8) by omega) with rfl | rfl | rfl | rfl | rfl | h8
  · rw [show fitsB m 3 = withinB m.piece 0 1023 from rfl]
    have hI := fun w' => wwithin_any m.piece 0 1023 w'
    generalize withinB m.piece 0 1023 = B at *
    clear e0 e4 e5 e6 e7
    generalize m.piece = n at *
    go_enter Tryz.func80, Tryz.ntmps80
    go_upto_region 1 with (fail)
    rw [HW.out]
    go_wp2_with (first | (go_at_call 128; refine (hI _).mono ?_; rintro e w2 ⟨rfl, rfl⟩))
    go_ret
    exact ⟨rfl, hbF⟩
  · rw [show fitsB m 4 = (decide (m.ids.length ≤ 64) && m.ids.all idB) from rfl]
    have hC := fun w' (h : Below W.heap.size W w') => ContainsFunc_any _ m.ids w' (HI.out.of_new h)
    generalize m.ids.all idB = B at *
    generalize m.ids.length = n at *
    clear e0 e3 e5 e6 e7
    by_cases hn : n ≤ 64
    · rw [decide_eq_true hn]
      have t : (n : Int) ≤ 64 := by omega
      go_enter Tryz.func80, Tryz.ntmps80
      go_upto_region 1 with (fail)
      rw [HW.out]
      go_wp2_with (first | (go_at_call 130; refine (hC _ hbG).mono ?_; rintro e w2 ⟨rfl, hb2⟩))
      go_ret
      exact ⟨ret_bool (by simp), below_next hbF hb2⟩
    · rw [decide_eq_false hn]
      have t : ¬ (n : Int) ≤ 64 := by omega
      clear hC
      go_enter Tryz.func80, Tryz.ntmps80
      go_upto_region 1 with (fail)
      rw [HW.out]
      go_wp2
      go_ret
      exact ⟨rfl, hbF⟩
  · rw [show fitsB m 5 = withinB m.bytes.length 1 (mostL m.kind) from rfl]
    have hI := fun w' => wwithin_any m.bytes.length 1 (mostL m.kind) w'
    have hM := fun w' => most_any m.kind w'
    generalize withinB m.bytes.length 1 (mostL m.kind) = B at *
    generalize mostL m.kind = q at *
    generalize m.bytes.length = n at *
    generalize m.kind = k at *
    clear e3 e4 e6 e7
    go_enter Tryz.func80, Tryz.ntmps80
    go_upto_region 1 with (fail)
    rw [HW.out]
    go_upto_region 9 with (fail)
    generalize hWF : W.alloc _ = WF at *
    have f0 : ∀ w', Grew WF w' → w'.cell? ⟨w.heap.size, 0, none⟩ = some (.int .i64 k) := fun w' hw' => hw'.cell ((hbG.cell (p := ⟨w.heap.size, 0, none⟩) hls).trans e0)
    have f5 : ∀ w', Grew WF w' → w'.cell? ⟨w.heap.size, 35, none⟩ = some (.slice ab n cb) := fun w' hw' => hw'.cell ((hbG.cell (p := ⟨w.heap.size, 35, none⟩) hls).trans e5)
    clear e0 e5 hWF
    refine wp_region_grew (by kernel_rfl) (by kernel_rfl) ?_
    repeat (first
      | (go_big_quiet_want; apply quiet_call (f := 128); (intro w' hw'; go_simp; first | done | rfl); (intro w' hw'; exact Grew.same hw' (hI w')); go_simp; go_big_quiet_on)
      | (go_big_quiet_want; apply quiet_call (f := 131); (intro w' hw'; go_simp; first | done | rfl); (intro w' hw'; exact Grew.same hw' (hM w')); go_simp; go_big_quiet_on)
      | (go_big_quiet_want; (with_reducible apply quiet_load_at (ty := 31) (x := .tmp _)); rfl; rfl; assumption; go_simp; go_big_quiet_on)
      | (go_big_quiet_want; apply quiet_val; (intro w' hw'; go_simp; first | done | rfl); go_simp; go_big_quiet_on)
      | (go_big_quiet_skip))
    refine wpQuiet_nil ?_
    intro w9 hw9
    go_wp2
    go_ret
    exact ⟨rfl, below_next hbF hw9⟩
  · rw [show fitsB m 6 = decide (m.proof.length ≤ 10) from rfl]
    generalize m.proof.length = n at *
    have hd : decide (n ≤ 10) = decide ((n : Int) ≤ 10) := by rw [Bool.eq_iff_iff]; simp; omega
    rw [hd]
    clear e0 e3 e4 e5 e7 hd
    go_enter Tryz.func80, Tryz.ntmps80
    go_upto_region 1 with (fail)
    rw [HW.out]
    go_wp2
    go_ret
    exact ⟨rfl, hbF⟩
  · rw [show fitsB m 7 = (withinB m.members.length 1 65 && m.members.all memB0) from rfl]
    have hI := fun w' => wwithin_any m.members.length 1 65 w'
    have hC := fun w' (h : Below W.heap.size W w') g hg => ContainsFuncM_any _ m.members g w' (HM.out.of_new h) hg
    generalize m.members.all memB0 = B at *
    generalize withinB m.members.length 1 65 = A at *
    generalize m.members.length = n at *
    clear e0 e3 e4 e5 e6
    cases A
    · clear hC
      go_enter Tryz.func80, Tryz.ntmps80
      go_upto_region 1 with (fail)
      rw [HW.out]
      go_wp2_with (first | (go_at_call 128; refine (hI _).mono ?_; rintro e w2 ⟨rfl, rfl⟩))
      go_ret
      exact ⟨rfl, hbF⟩
    · go_enter Tryz.func80, Tryz.ntmps80
      go_upto_region 1 with (fail)
      rw [HW.out]
      go_wp2_with (first | (go_at_call 128; refine (hI _).mono ?_; rintro e w2 ⟨rfl, rfl⟩) | (go_at_call 132; refine (hC _ hbG W.heap.size (by go_simp)).mono ?_; rintro e w3 ⟨rfl, hb3⟩))
      go_ret
      exact ⟨ret_bool (by simp), below_next hbF hb3⟩
  · have e : fitsB m i = true := by unfold fitsB; rcases h8 with rfl | rfl | rfl <;> rfl
    rw [e]
    clear e0 e3 e4 e5 e6 e7 e
    rcases h8 with rfl | rfl | rfl
    all_goals
      go_enter Tryz.func80, Tryz.ntmps80
      go_upto_region 1 with (fail)
      rw [HW.out]
      go_wp2
      go_ret
      exact ⟨rfl, hbF⟩

end Go.Proofs.YtnohglkilpnjhaaGreatDoor

/- The walk of wire.Right: whether a message may be. No condition. -/
namespace Go.Proofs.YtnohglkilpnjhaaGreatDoor
open Go.RowKit
set_option linter.unusedVariables false
set_option linter.unusedSimpArgs false
set_option maxRecDepth 100000

theorem rightF_step (m : MsgL) {k : Nat} (h1 : k ≤ 8) : rightF m (9 - k) k = (itemB m k && rightF m (9 - (k + 1)) ((k + 1 : Nat) : Int)) := by
  rw [show 9 - k = (9 - (k + 1)) + 1 by omega, rightF]
  simp
theorem rightF_end (m : MsgL) (k : Int) : rightF m (9 - 9) k = true := rfl
theorem wrightB_from (m : MsgL) : wrightB m = rightF m (9 - 1) ((1 : Nat) : Int) := rfl

set_option maxHeartbeats 3200000 in
theorem WRight_any (m : MsgL) (s : MsgS) (w : World) (hm : MsgR w m s) :
    Calls Tryz.prog 38 #[MsgV m s] w fun e w' => e = .returned (.bool (wrightB m)) ∧ Below w.heap.size w w' := by
  obtain ⟨W, hW, ho, hb⟩ := msg_boxed w (s := s) hm.hash
  obtain ⟨V, hV⟩ : ∃ V, MsgV m s = V := ⟨_, rfl⟩
  have hH := has_any m.kind W
  have e0 := ho.kind
  have hls := ho.lt
  have HM := Lib.hid hm
  have HO := Lib.hid ho
  have HW := Lib.hid hW
  obtain ⟨B, hB⟩ : ∃ B, wrightB m = B := ⟨_, rfl⟩
  rw [hB]
  have HB := Lib.hid (hB.symm.trans (wrightB_from m))
  rw [show MsgV m s = .agg (msgCells m s).toArray from rfl] at hV ⊢
  clear hW hm ho hB hV
  go_enter Tryz.func38, Tryz.ntmps38
  go_upto_region 1 with (fail)
  rw [HW.out]
  go_wp2_with (first | (go_at_call 78; refine hH.mono ?_; rintro e w2 ⟨v2, rfl, hv2, hb2⟩; obtain ⟨a2, c2, hv⟩ := hv2.len; subst hv; have HV := Lib.hid hv2; have HO2 := Lib.hid (HO.out.of_new hb2); have hbA := below_next hb hb2; clear hv2 hb2))
  go_loopw [4, 5] (fun iv _ W' => ∃ k : Nat, 1 ≤ k ∧ k ≤ 9 ∧ iv = .int .i64 k ∧ B = rightF m (9 - k) k ∧ Below w2.heap.size w2 W') (fun iv _ _ => 9 - (intOf iv).toNat)
  case atStart => exact ⟨1, by omega, by omega, rfl, HB.out, Below.refl _ _⟩
  case round =>
    obtain ⟨k, hk1, hk9, rfl, hm, hbk⟩ := hrel
    by_cases hlt : k ≤ 8
    · rw [rightF_step m hlt] at hm
      have hbw := below_next hbA hbk
      have HOk := Lib.hid (HO2.out.of_new hbk)
      have hC := Contains_any _ (hasL m.kind) k wr (HV.out.of_new hbk)
      have hF := fun w' (h : Below wr.heap.size wr w') => fits_any m s k w' (HM.out.of_new (below_next hbw h)) (by omega) (by omega)
      have hR := fun w' (h : Below wr.heap.size wr w') => bare_any m s k w' (HM.out.of_new (below_next hbw h)) (by omega) (by omega)
      generalize hQ : rightF m (9 - (k + 1)) ((k + 1 : Nat) : Int) = Q at *
      have HQ := Lib.hid hQ
      unfold itemB at hm
      clear hQ
      by_cases hin : (k : Int) ∈ hasL m.kind
      · rw [decide_eq_true hin] at hC
        rw [if_pos hin] at hm
        clear hin hR
        generalize fitsB m k = F at *
        have HN := Lib.hid hm
        clear hm
        cases F with
        | false =>
          go_wp2_with (first
            | (go_at_call 79; refine hC.mono ?_; rintro e w3 ⟨rfl, hb3⟩; have HO3 := Lib.hid (HOk.out.of_new hb3))
            | ((with_reducible refine wpList_met (o := ⟨some 18, _, _, _, _, _⟩) ?_ ?_); rfl; intro K hK; refine wp_load_msg (g := w.heap.size) (m := m) (s := s) rfl rfl HO3.out (hK _ _ ?_))
            | (go_at_call 80; refine (hF _ hb3).mono ?_; rintro e w4 ⟨rfl, hb4⟩))
          go_ret
          exact ⟨ret_bool (by rw [HN.out]; rfl), below_next (below_next hbw hb3) hb4⟩
        | true =>
          go_wp2_with (first
            | (go_at_call 79; refine hC.mono ?_; rintro e w3 ⟨rfl, hb3⟩; have HO3 := Lib.hid (HOk.out.of_new hb3))
            | ((with_reducible refine wpList_met (o := ⟨some 18, _, _, _, _, _⟩) ?_ ?_); rfl; intro K hK; refine wp_load_msg (g := w.heap.size) (m := m) (s := s) rfl rfl HO3.out (hK _ _ ?_))
            | (go_at_call 80; refine (hF _ hb3).mono ?_; rintro e w4 ⟨rfl, hb4⟩))
          go_roundw
          case rel => exact ⟨k + 1, by omega, by omega, by go_num, by rw [HN.out, HQ.out]; rfl, below_next (below_next hbk hb3) hb4⟩
          case measure => simp [intOf]; omega
      · rw [decide_eq_false hin] at hC
        rw [if_neg hin] at hm
        clear hin hF
        generalize bareB m k = F at *
        have HN := Lib.hid hm
        clear hm
        cases F with
        | false =>
          go_wp2_with (first
            | (go_at_call 79; refine hC.mono ?_; rintro e w3 ⟨rfl, hb3⟩; have HO3 := Lib.hid (HOk.out.of_new hb3))
            | ((with_reducible refine wpList_met (o := ⟨some 27, _, _, _, _, _⟩) ?_ ?_); rfl; intro K hK; refine wp_load_msg (g := w.heap.size) (m := m) (s := s) rfl rfl HO3.out (hK _ _ ?_))
            | (go_at_call 81; refine (hR _ hb3).mono ?_; rintro e w4 ⟨rfl, hb4⟩))
          go_ret
          exact ⟨ret_bool (by rw [HN.out]; rfl), below_next (below_next hbw hb3) hb4⟩
        | true =>
          go_wp2_with (first
            | (go_at_call 79; refine hC.mono ?_; rintro e w3 ⟨rfl, hb3⟩; have HO3 := Lib.hid (HOk.out.of_new hb3))
            | ((with_reducible refine wpList_met (o := ⟨some 27, _, _, _, _, _⟩) ?_ ?_); rfl; intro K hK; refine wp_load_msg (g := w.heap.size) (m := m) (s := s) rfl rfl HO3.out (hK _ _ ?_))
            | (go_at_call 81; refine (hR _ hb3).mono ?_; rintro e w4 ⟨rfl, hb4⟩))
          go_roundw
          case rel => exact ⟨k + 1, by omega, by omega, by go_num, by rw [HN.out, HQ.out]; rfl, below_next (below_next hbk hb3) hb4⟩
          case measure => simp [intOf]; omega
    · obtain rfl : k = 9 := by omega
      rw [rightF_end] at hm
      have HN := Lib.hid hm
      clear hm
      go_wp2
      go_ret
      exact ⟨ret_bool HN.out.symm, below_next hbA hbk⟩

end Go.Proofs.YtnohglkilpnjhaaGreatDoor

/- The walk of the reference's Same: are two images the same. No condition. -/
namespace Go.Proofs.YtnohglkilpnjhaaGreatDoor
open Go.RowKit
set_option linter.unusedVariables false
set_option linter.unusedSimpArgs false
set_option maxRecDepth 100000

theorem run_neq_blob (x y : BlobL) (hx : x.ok) (hy : y.ok) (w : World) : (binOp .neq 81 (BlobV x) (BlobV y)).run Tryz.prog w = .ok (.bool (!decide (x = y))) w := by
  have := run_equalIn_blob 9997 x y hx hy w
  unfold BlobV at this ⊢
  rw [run_neq_struct, this]; rfl
theorem run_guard_nblob (x y : Operand) (a b : BlobL) (w : World) : (eqGuard .neq 81 x y (BlobV a) (BlobV b)).run Tryz.prog w = .ok () w := run_eqGuard_agg (P := Tryz.prog) w .neq 81 x y a.cells.toArray b.cells.toArray guard_blob

def SameIM (l m : List BlobL) (W2 : World) (iv : Value) (W : World) : Prop := ∃ k : Nat, k ≤ l.length ∧ iv = .int .i64 k ∧ l.take k = m.take k ∧ Below W2.heap.size W2 W

set_option maxHeartbeats 3200000 in
theorem SameImg_any (v u : Value) (l m : List BlobL) (w : World) (hl : RBlob.Row w v l) (hm : RBlob.Row w u m) :
    Calls Tryz.prog 20 #[.agg #[v], .agg #[u]] w fun e w' => e = .returned (.bool (decide (l = m))) ∧ Below w.heap.size w w' := by
  obtain ⟨va, vc, hv⟩ := hl.len
  subst hv
  obtain ⟨ua, uc, hv⟩ := hm.len
  subst hv
  have hle := hl.le
  have hme := hm.le
  obtain ⟨W1, hW1⟩ : ∃ W1, w.alloc (.cells #[.slice va l.length vc] 52) = W1 := ⟨_, rfl⟩
  have ho1 : One W1 w.heap.size (.slice va l.length vc) 52 := by rw [← hW1]; exact heap_alloc_new w _
  have hb1 : Below w.heap.size w W1 := by rw [← hW1]; exact (Below.refl _ w).alloc (Nat.le_refl _) _
  obtain ⟨W2, hW2⟩ : ∃ W2, W1.alloc (.cells #[.slice ua m.length uc] 52) = W2 := ⟨_, rfl⟩
  have ho2 : One W2 (w.heap.size + 1) (.slice ua m.length uc) 52 := by
    rw [← hW2, show w.heap.size + 1 = W1.heap.size by rw [← hW1]; simp]
    exact heap_alloc_new W1 _
  have hb2' : Below W1.heap.size W1 W2 := by rw [← hW2]; exact (Below.refl _ W1).alloc (Nat.le_refl _) _
  have hb2 : Below w.heap.size w W2 := below_next hb1 hb2'
  have HO1 := Lib.hid (ho1.of_new hb2')
  have HO2 := Lib.hid ho2
  have HL := Lib.hid (hl.of_new hb2)
  have HM := Lib.hid (hm.of_new hb2)
  have HB2 := Lib.hid hb2
  have HW1 := Lib.hid hW1
  have HW2 := Lib.hid hW2
  have hc1 := HO1.out.cell
  have hc2 := HO2.out.cell
  have hs1 := HO1.out.lt
  have hs2 := HO2.out.lt
  clear hl hm hW1 hW2 ho1 ho2 hb1 hb2 hb2'
  by_cases hlen : l.length = m.length
  · have t1 : ((l.length : Int) != (m.length : Int)) = false := by simp; omega
    have HLM := Lib.hid hlen
    clear hlen
    go_enter Tryz.func20, Tryz.ntmps20
    go_upto_region 1 with (fail)
    rw [HW1.out, HW2.out]
    go_wp2
    go_loopw [5] (SameIM l m W2) (fun iv _ => l.length - (intOf iv).toNat)
    case atStart => exact ⟨0, by omega, rfl, by simp, Below.refl _ _⟩
    case round =>
      obtain ⟨k, hk, rfl, heq, hb⟩ := hrel
      have hc1 := (hb.cell (p := ⟨w.heap.size, 0, none⟩) hs1).trans hc1
      have hc2 := (hb.cell (p := ⟨w.heap.size + 1, 0, none⟩) hs2).trans hc2
      have HQ := Lib.hid heq
      clear heq
      by_cases hlt : k < l.length
      · have t2 : (k : Int) < (l.length : Int) := by omega
        have t3 : (k : Int) < (m.length : Int) := by have := HLM.out; omega
        have hkm : k < m.length := by have := HLM.out; omega
        obtain ⟨b, off, c, hv, hbl, hat⟩ := HL.out.at_ (by omega)
        obtain ⟨rfl, rfl⟩ : va = some ⟨b, off, none⟩ ∧ vc = c := by cases hv; exact ⟨rfl, rfl⟩
        obtain ⟨b2, off2, c2, hv2, hbl2, hat2⟩ := HM.out.at_ (by omega)
        obtain ⟨rfl, rfl⟩ : ua = some ⟨b2, off2, none⟩ ∧ uc = c2 := by cases hv2; exact ⟨rfl, rfl⟩
        obtain ⟨x, hx⟩ : ∃ x, l[k]? = some x := ⟨_, List.getElem?_eq_getElem hlt⟩
        obtain ⟨y, hy⟩ : ∃ y, m[k]? = some y := ⟨_, List.getElem?_eq_getElem hkm⟩
        have h1 := (hat k x hx).of_new hb
        have h2 := (hat2 k y hy).of_new hb
        have hneq : ∀ w : World, (binOp .neq 81 (RBlob.V x) (RBlob.V y)).run Tryz.prog w = .ok (.bool (!decide (x = y))) w := run_neq_blob x y h1.1 h2.1
        have hgd : ∀ (p q : Operand) (w : World), (eqGuard .neq 81 p q (RBlob.V x) (RBlob.V y)).run Tryz.prog w = .ok () w := fun p q w' => run_guard_nblob p q x y w'
        have hts1 : l.take (k + 1) = l.take k ++ [x] := by rw [List.take_add_one, hx]; rfl
        have hts2 : m.take (k + 1) = m.take k ++ [y] := by rw [List.take_add_one, hy]; rfl
        have hne : l = m → x = y := fun e => by rw [e] at hx; rw [hx] at hy; cases hy; rfl
        have H1 := Lib.hid h1
        have H2 := Lib.hid h2
        have HT1 := Lib.hid hts1
        have HT2 := Lib.hid hts2
        have HNE := Lib.hid hne
        have HBB := Lib.hid hb
        have hr1 : ∀ w', Grew wr w' → w'.cell? ⟨w.heap.size, 0, none⟩ = some (.slice (some ⟨b, off, none⟩) l.length vc) := fun w' h => Grew.cell h hc1
        have hr2 : ∀ w', Grew wr w' → w'.cell? ⟨w.heap.size + 1, 0, none⟩ = some (.slice (some ⟨b2, off2, none⟩) m.length uc) := fun w' h => Grew.cell h hc2
        clear hv hv2 hat hat2 hx hy h1 h2 hts1 hts2 hne hb
        go_upto_region 6 with (fail)
        refine wp_region_grew (by kernel_rfl) (by kernel_rfl) ?_
        repeat (first
          | (go_big_quiet_want; (refine RecT.At.quiet (R := RBlob) (x := y) (p := .tmp 28) (fun w' hw' => H2.out.of_new hw') rfl rfl ?_); go_simp; go_big_quiet_on)
          | (go_big_quiet_want; (refine RecT.At.quiet (R := RBlob) (x := x) (p := .tmp 23) (fun w' hw' => H1.out.of_new hw') rfl rfl ?_); go_simp; go_big_quiet_on)
          | (go_big_quiet_want; (with_reducible apply quiet_load_at (ty := 31) (x := .tmp _)); rfl; rfl; assumption; go_simp; go_big_quiet_on)
          | (go_big_quiet_want; apply quiet_val; (intro w' hw'; go_simp; first | done | rfl); go_simp; go_big_quiet_on)
          | (go_big_quiet_skip))
        refine wpQuiet_nil ?_
        intro w5 hw5
        have HB5 := Lib.hid (below_next HBB.out hw5)
        clear hneq hgd hw5 hr1 hr2
        by_cases hd : x = y
        · have t4 : decide (x = y) = true := by simp [hd]
          have HTK := Lib.hid (show l.take (k + 1) = m.take (k + 1) by rw [HT1.out, HT2.out, HQ.out, hd])
          clear hd
          simp only [t4, Bool.not_true]
          go_wp2
          exact ⟨⟨k + 1, by omega, by go_num, HTK.out, HB5.out⟩, by simp [intOf]; omega⟩
        · have t4 : decide (x = y) = false := by simp [hd]
          have HN := Lib.hid (show l ≠ m from fun e => hd (HNE.out e))
          have HB6 := Lib.hid (below_next HB2.out HB5.out)
          clear hd
          simp only [t4, Bool.not_false]
          go_wp2
          go_ret
          exact ⟨ret_bool5 (by simp; exact HN.out), HB6.out⟩
      · obtain rfl : k = l.length := by omega
        have t2 : ¬ (l.length : Int) < (l.length : Int) := by omega
        have he : l = m := by
          have := HQ.out
          rwa [List.take_of_length_le (Nat.le_refl _), List.take_of_length_le (by have := HLM.out; omega)] at this
        have HE := Lib.hid he
        have HBB := Lib.hid (below_next HB2.out hb)
        clear he hb
        go_wp2
        go_ret
        exact ⟨ret_bool5 (by simp; exact HE.out), HBB.out⟩
  · have t1 : ((l.length : Int) != (m.length : Int)) = true := by simp; omega
    have HN := Lib.hid (show l ≠ m from fun e => hlen (by rw [e]))
    clear hlen
    go_enter Tryz.func20, Tryz.ntmps20
    go_upto_region 1 with (fail)
    rw [HW1.out, HW2.out]
    go_wp2
    go_ret
    exact ⟨ret_bool5 (by simp; exact HN.out), HB2.out⟩

end Go.Proofs.YtnohglkilpnjhaaGreatDoor

/- The walks of the reference's hash and number: what an item tells. No condition. -/
namespace Go.Proofs.YtnohglkilpnjhaaGreatDoor
open Go.RowKit
set_option linter.unusedVariables false
set_option linter.unusedSimpArgs false
set_option maxRecDepth 100000

set_option maxHeartbeats 1600000 in
theorem RHash_any (v : Value) (l : List It) (n : Int) (w : World) (hl : Items w v l) :
    Calls Tryz.prog 55 #[v, .int .i64 n] w fun e w' => e = .returned (.agg ((rhash l n).map B8).toArray) ∧ Below w.heap.size w w' := by
  have HF := Lib.hid (fun W h => refFind_any v l n W h)
  have HL := Lib.hid hl
  clear hl
  have HE := Lib.hid (show rhash l n = if ((findL n l).getD []).length = 32 then (findL n l).getD [] else dig0 from rfl)
  obtain ⟨R, hR⟩ : ∃ R, rhash l n = R := ⟨_, rfl⟩
  rw [hR] at HE ⊢
  clear hR
  generalize findL n l = F at *
  go_enter Tryz.func55, Tryz.ntmps55
  go_upto_region 2 with (first
    | ((with_reducible refine wpList_plain (o := ⟨some 4, Op.alloc _, _, _, _, _⟩) rfl fun K hK => ?_); (refine wp_alloc_dig rfl fun w1 h1 hb1 hs1 => hK _ _ ?_); have H1 := Lib.hid h1; have HB1 := Lib.hid hb1; have HS1 := Lib.hid hs1; clear h1 hb1 hs1)
    | (go_at_call 93; refine (HF.out _ (HL.out.of_new HB1.out)).mono ?_; rintro e w2 ⟨v2, rfl, hbv, hb2⟩; have HV2 := Lib.hid hbv; have H2 := Lib.hid (H1.out.of_new hb2); have HB2 := Lib.hid (below_next HB1.out hb2); clear hbv hb2))
  obtain ⟨B, hB⟩ : ∃ B, F.getD [] = B := ⟨_, rfl⟩
  have hbv := HV2.out
  rw [hB] at hbv HE
  obtain ⟨va, vc, hv⟩ := hbv.len
  subst hv
  obtain ⟨g, hg⟩ : ∃ g, w2.heap.size = g := ⟨_, rfl⟩
  have HG := Lib.hid hg
  have hwg : w.heap.size < g := by rw [← hg]; exact H2.out.lt
  have HBV := Lib.hid hbv
  clear hB hbv HV2 hg
  by_cases h32 : B.length = 32
  case neg =>
    have t1 : ((B.length : Int) == 32) = false := beq_eq_false_iff_ne.2 (by omega)
    have HEE := Lib.hid (show R = dig0 by rw [HE.out, if_neg h32])
    clear h32
    go_wp2_with (first
      | ((with_reducible refine wpList_plain (o := ⟨some 7, Op.alloc _, _, _, _, _⟩) rfl fun K hK => ?_); (refine wp_alloc_dig rfl fun w3 h3 hb3 hs3 => hK _ _ ?_); rw [HG.out] at h3 hs3 ⊢; have H3 := Lib.hid h3; have HB3 := Lib.hid (below_next HB2.out hb3); have H13 := Lib.hid (H2.out.of_new hb3); clear h3 hb3 hs3))
    go_loopw [8] (fun iv W => iv = .int .i64 0 ∧ DigO W w.heap.size dig0 ∧ DigO W g dig0 ∧ Below w.heap.size w W) (fun iv _ => 0)
    case atStart => exact ⟨rfl, H13.out, H3.out, HB3.out⟩
    case round =>
      obtain ⟨rfl, hd1, hd2, hb⟩ := hrel
      have HD1 := Lib.hid hd1
      have HD2 := Lib.hid hd2
      have HB := Lib.hid hb
      clear hd1 hd2 hb
      go_wp2_with (first
        | ((with_reducible refine wpList_plain (o := ⟨some 30, Op.load _ _, _, _, _, _⟩) rfl fun K hK => ?_); (refine wp_load_at (ty := 31) (x := .tmp 7) rfl rfl HD2.out.at_ (hK _ _ ?_)))
        | ((with_reducible refine wpList_plain (o := ⟨none, Op.store _ (.tmp 4) (.tmp 30), _, _, _, _⟩) rfl fun K hK => ?_); (refine wp_store_digO (.tmp 4) (.tmp 30) w.heap.size dig0 dig0 rfl rfl rfl rfl HD1.out fun w4 h4 hg4 hs4 => hK _ _ ?_); have H4 := Lib.hid h4; have HG4 := Lib.hid hg4; clear h4 hg4 hs4))
      refine bodyPost_ret (results_dig rfl _ rfl H4.out) rfl ?_
      exact ⟨by rw [HEE.out], HB.out.grown HG4.out (by have := HB.out.size; omega) (fun k e => by cases e; omega)⟩
  have HEE := Lib.hid (show R = B by rw [HE.out, if_pos h32])
  obtain ⟨bb, off, c, hv, hbb, hc⟩ := HBV.out.cell (by omega)
  obtain ⟨rfl, rfl⟩ : va = some ⟨bb, off, none⟩ ∧ vc = c := by cases hv; exact ⟨rfl, rfl⟩
  have hlc : 32 ≤ vc := by
    obtain ⟨_, a', c', hv, hn, _⟩ := HBV.out
    cases hv; omega
  rw [h32]
  have HC := Lib.hid hc
  have H32 := Lib.hid h32
  rw [HG.out] at hbb
  clear hc h32 hv
  go_wp2_with (first
    | ((with_reducible refine wpList_plain (o := ⟨some 7, Op.alloc _, _, _, _, _⟩) rfl fun K hK => ?_); (refine wp_alloc_dig rfl fun w3 h3 hb3 hs3 => hK _ _ ?_); rw [HG.out] at h3 hs3 ⊢; have H3 := Lib.hid h3; have HB3 := Lib.hid hb3; have H13 := Lib.hid (H2.out.of_new hb3); clear h3 hb3 hs3))
  go_loopw [8] (fun iv W => ∃ k : Nat, k ≤ 32 ∧ iv = .int .i64 k ∧ DigO W w.heap.size dig0 ∧ DigO W g (filled B k) ∧ Below w2.heap.size w2 W) (fun iv _ => 32 - (intOf iv).toNat)
  case atStart => exact ⟨0, Nat.zero_le _, rfl, H13.out, by rw [filled_zero]; exact H3.out, HB3.out⟩
  case round =>
    obtain ⟨k, hk, rfl, hd1, hd2, hb⟩ := hrel
    by_cases hlt : k < 32
    · have hci := (hb.cell (p := ⟨bb, off + k, none⟩) (by rw [HG.out]; exact hbb)).trans (HC.out k (by rw [H32.out]; exact hlt))
      have hst := filled_step H32.out hlt
      have hc2 := hd2.cell hlt
      have hf2 := hd2.free k
      obtain ⟨x, hx⟩ : ∃ x, B.getD k 0 = x := ⟨_, rfl⟩
      rw [hx] at hci hst
      unfold B8 at hci hc2
      have HST := Lib.hid hst
      have HD1 := Lib.hid hd1
      have HD2 := Lib.hid hd2
      have HB := Lib.hid hb
      have hki : (k : Int) < 32 := by omega
      clear hst hd1 hd2 hb hx
      go_wp2
      go_roundw
      case rel =>
        refine ⟨k + 1, by omega, by go_num, HD1.out.of_block (Below.heap_setCell _ _ _ _ (by show w.heap.size ≠ g; omega)), ?_, HB.out.setCell (p := ⟨g, k, none⟩) (by show w2.heap.size ≤ g; rw [HG.out]; exact Nat.le_refl _) _⟩
        rw [← HST.out]
        exact HD2.out.set k x
      case measure => simp [intOf]; omega
    · obtain rfl : k = 32 := by omega
      rw [filled_all H32.out] at hd2
      have HD1 := Lib.hid hd1
      have HD2 := Lib.hid hd2
      have HB := Lib.hid (below_next HB2.out hb)
      clear hd1 hd2 hb
      go_wp2_with (first
        | ((with_reducible refine wpList_plain (o := ⟨some 30, Op.load _ _, _, _, _, _⟩) rfl fun K hK => ?_); (refine wp_load_at (ty := 31) (x := .tmp 7) rfl rfl HD2.out.at_ (hK _ _ ?_)))
        | ((with_reducible refine wpList_plain (o := ⟨none, Op.store _ (.tmp 4) (.tmp 30), _, _, _, _⟩) rfl fun K hK => ?_); (refine wp_store_digO (.tmp 4) (.tmp 30) w.heap.size B dig0 rfl rfl rfl H32.out HD1.out fun w4 h4 hg4 hs4 => hK _ _ ?_); have H4 := Lib.hid h4; have HG4 := Lib.hid hg4; clear h4 hg4 hs4))
      refine bodyPost_ret (results_dig rfl _ rfl H4.out) rfl ?_
      exact ⟨by rw [HEE.out], HB.out.grown HG4.out (by have := HB.out.size; omega) (fun k e => by cases e; omega)⟩

set_option maxHeartbeats 1600000 in
theorem RNum_any (v : Value) (l : List It) (n : Int) (w : World) (hl : Items w v l) :
    Calls Tryz.prog 56 #[v, .int .i64 n] w fun e w' => e = .returned (.int .i64 (rnum l n)) ∧ Below w.heap.size w w' := by
  have HF := Lib.hid (fun W h => refFind_any v l n W h)
  have HL := Lib.hid hl
  clear hl
  have HE := Lib.hid (show rnum l n = match toU ((findL n l).getD []) with | some k => if k ≤ 1048576 then (k : Int) else 0 | none => 0 from rfl)
  obtain ⟨R, hR⟩ : ∃ R, rnum l n = R := ⟨_, rfl⟩
  rw [hR] at HE ⊢
  clear hR
  generalize findL n l = F at *
  have HT := Lib.hid (fun v W h => refToUint_any v (F.getD []) W h)
  have hlt := fun k => toU_lt (l := F.getD []) (n := k)
  generalize toU (F.getD []) = O at *
  go_enter Tryz.func56, Tryz.ntmps56
  go_upto_region 3 with (first
    | (go_at_call 93; refine (HF.out _ HL.out).mono ?_; rintro e w2 ⟨v2, rfl, hbv, hb2⟩; have HV2 := Lib.hid hbv; have HB2 := Lib.hid hb2; clear hbv hb2)
    | (go_at_call 91; refine (HT.out _ _ HV2.out).mono ?_; rintro e w3 ⟨rfl, hb3⟩; have HB3 := Lib.hid (below_next HB2.out hb3); clear hb3))
  rcases O with _ | k
  · have HEE := Lib.hid (show R = 0 from HE.out)
    have e0 : errOf (none : Option Nat).isSome = 2 := rfl
    clear HE hlt
    go_wp2
    go_ret
    exact ⟨ret_int5 HEE.out, HB3.out⟩
  · have hk := hlt k rfl
    have e0 : errOf (some k : Option Nat).isSome = 0 := rfl
    have hE : R = if k ≤ 1048576 then (k : Int) else 0 := HE.out
    by_cases h : k ≤ 1048576
    · have HEE := Lib.hid (show R = (k : Int) by rw [hE, if_pos h])
      have t1 : ¬ (1048576 : Int) < (k : Int) := by omega
      have hw1 : IntKind.i64.wrap (k : Int) = (k : Int) := IntWalk.i64_in _ (by omega)
      clear HE hlt hE
      go_wp2
      go_ret
      exact ⟨ret_int5 HEE.out, HB3.out⟩
    · have HEE := Lib.hid (show R = 0 by rw [hE, if_neg h])
      have t1 : (1048576 : Int) < (k : Int) := by omega
      clear HE hlt hE
      go_wp2
      go_ret
      exact ⟨ret_int5 HEE.out, HB3.out⟩

end Go.Proofs.YtnohglkilpnjhaaGreatDoor

/- The walk of the reference's Decode. No condition. -/
namespace Go.Proofs.YtnohglkilpnjhaaGreatDoor
open Go.RowKit
set_option linter.unusedVariables false
set_option linter.unusedSimpArgs false

/-- What holds ahead of each round of the reference's Decode. -/
def RDecI (w : World) (b : List UInt8) (ov lv rv : Value) (W : World) : Prop :=
  ∃ (pre : List ItV) (last : Int) (rest : List UInt8), OwnI W w.heap.size ov pre ∧ Bytes w rv rest ∧ lv = .int .i64 last ∧ 0 ≤ last ∧ last ≤ 63 ∧ pre.length + rest.length ≤ 65536 ∧
    checkF (itemsL b) 0 = (checkF (itemsL rest) last).map (pre.map (·.1) ++ ·) ∧ Below w.heap.size w W

theorem refcut_bad {v : Value} {l : List UInt8} {w : World} (hl : Bytes w v l) (h : cutL 0 0 l = none) :
    Calls Tryz.prog 90 #[v] w fun e w' => e = .returned (.tuple #[.int .u64 0, .int .i64 0]) ∧ w' = w :=
  (refcut_any v l w hl).mono fun e w' h2 => by unfold RefCutPost at h2; rw [h] at h2; exact h2
theorem refcut_good {v : Value} {l : List UInt8} {w : World} (hl : Bytes w v l) {n m : Nat} (h : cutL 0 0 l = some (n, m)) :
    Calls Tryz.prog 90 #[v] w fun e w' => e = .returned (.tuple #[.int .u64 n, .int .i64 m]) ∧ w' = w :=
  (refcut_any v l w hl).mono fun e w' h2 => by unfold RefCutPost at h2; rw [h] at h2; exact h2

set_option maxRecDepth 100000 in
set_option maxHeartbeats 3200000 in
theorem refDecode_own (v : Value) (b : List UInt8) (w : World) (hl : Bytes w v b) :
    Calls Tryz.prog 47 #[v] w (DecPostO w (decL b)) := by
  obtain ⟨i0, hi, hz0, hz1, hz2⟩ := info_parts infoU8
  have hle := hl.le
  obtain ⟨va, vc, hv⟩ := hl.len
  subst hv
  by_cases hbig : 65536 < b.length
  · have t0 : (65536 : Int) < (b.length : Int) := by omega
    have hd : decL b = none := by unfold decL; rw [if_pos hbig]
    have HD := Lib.hid hd
    clear hd hbig hl
    go_enter Tryz.func47, Tryz.ntmps47
    go_wp2
    go_ret2
    rw [HD.out]
    exact ⟨_, [], w.heap.size, rfl, OwnI.nil _ _, rfl, Below.refl _ _, Nat.le_refl _⟩
  have t0 : ¬ (65536 : Int) < (b.length : Int) := by omega
  have hd : decL b = checkF (itemsL b) 0 := by unfold decL; rw [if_neg hbig]
  have HD := Lib.hid hd
  clear hd
  have HL := Lib.hid hl
  clear hl
  go_enter Tryz.func47, Tryz.ntmps47
  go_wp2
  go_loopw [4, 5, 6] (RDecI w b) (fun _ _ rv _ => lenV rv)
  case atStart => exact ⟨[], 0, b, OwnI.nil _ _, HL.out, rfl, by omega, by omega, by simp; omega, by simp, Below.refl _ _⟩
  case round =>
    obtain ⟨pre, last, rest, hown, hl, rfl, hla, hlb, hlen, heq, hb⟩ := hrel
    obtain ⟨ra, rc, hv⟩ := hl.len
    subst hv
    obtain ⟨oa, oc, hv⟩ := hown.len
    subst hv
    have HEQ := Lib.hid heq
    clear heq
    by_cases hlt : 0 < rest.length
    · have hlt2 : (0 : Int) < (rest.length : Int) := by omega
      obtain ⟨rb, roff, rc', hv, hbl, hcell⟩ := hl.cell hlt
      obtain ⟨rfl, rfl⟩ : ra = some ⟨rb, roff, none⟩ ∧ rc = rc' := by cases hv; exact ⟨rfl, rfl⟩
      have hc0 := (hb.cell (p := ⟨rb, roff + 0, none⟩) hbl).trans (hcell 0 hlt)
      rw [Nat.add_zero] at hc0
      unfold B8 at hc0
      have hyl := (rest.getD 0 0).toNat_lt
      obtain ⟨tv, hrt, ht, hto⟩ := hl.part (P := Tryz.prog) (t := 33) Tryz.underlying33 hi hz1 (some (.int .i64 1)) none 1 rest.length (by omega) (Nat.le_refl _) (.inr ⟨.i64, rfl⟩) (.inl ⟨rfl, rfl⟩)
      rw [List.take_of_length_le (by simp)] at ht
      have hone := oneI_drop hlt
      have htl : (rest.drop 1).length = rest.length - 1 := by simp
      have hne : rest ≠ [] := by intro e; rw [e] at hlt; simp at hlt
      have hbad := itemsL_bad (b := rest) hne
      have hstep := fun x r => itemsL_step (b := rest) (r := r) (x := x)
      have hone' : ∀ n m, cutL 0 0 (rest.drop 1) = some (n, m) → m ≤ (rest.drop 1).length ∧ 0 < m ∧ n < 18446744073709551616 := fun n m h => by have := cutL_lt (by omega) (by omega) h; omega
      clear hcell hv
      have HTL := Lib.hid htl
      have HBAD := Lib.hid hbad
      have HST := Lib.hid hstep
      have HPART := Lib.hid hl
      clear htl hbad hstep hne
      have hrd : ∀ m, (rest.drop 1).drop m = rest.drop (1 + m) := fun m => by rw [List.drop_drop]
      have HRD := Lib.hid hrd
      clear hrd
      generalize hty : rest.drop 1 = t at *
      generalize rest.getD 0 0 = y at *
      obtain ⟨ta, tc, hv⟩ := ht.len
      subst hv
      have HONE := Lib.hid hone
      clear hone hto hl
      have HTY := Lib.hid hty
      clear hty
      have hyn : checkF [((0 : Int), ([] : List UInt8))] last = none := by simp [checkF]; omega
      have hord : ∀ (x : It) (r : List It), (x.1 ≤ last ∨ 63 < x.1) → checkF (x :: r) last = none := fun x r h => by simp only [checkF, if_pos h]
      have hnone : checkF (itemsL rest) last = none → decL b = none := fun h => by rw [HD.out, HEQ.out, h]; rfl
      have hbadk : (((y.toNat : Nat) : Int) ≤ last ∨ 63 < ((y.toNat : Nat) : Int)) → decL b = none := fun h => hnone (by
        cases ho : oneI rest with
        | none => rw [HBAD.out ho]; exact hyn
        | some p =>
          obtain ⟨x, r⟩ := p
          rw [HST.out _ _ ho]
          refine hord x _ ?_
          have h1 := HONE.out
          rw [ho] at h1
          split at h1
          · cases h1
          · split at h1
            · cases h1
            · cases h1; exact h)
      have HORD := Lib.hid hord
      have HNO := Lib.hid hnone
      have HYN := Lib.hid hyn
      clear hord hnone hyn
      rcases hcut : cutL 0 0 t with _ | ⟨n, m⟩
      · have hbd : oneI rest = none := by rw [HONE.out, hcut]
        have hdn : decL b = none := HNO.out (by rw [HBAD.out hbd]; exact HYN.out)
        have HDN := Lib.hid hdn
        have HCU := Lib.hid hcut
        clear hcut hdn hbd hbadk
        have hl2 := ht.of_new hb
        by_cases h1 : ((y.toNat : Nat) : Int) ≤ last
        · go_wp2_with (refine (refcut_bad hl2 HCU.out).mono ?_; rintro e w2 ⟨rfl, rfl⟩)
          go_ret2
          rw [HDN.out]
          exact ⟨_, [], w.heap.size, rfl, OwnI.nil _ _, rfl, hb, Nat.le_refl _⟩
        · by_cases h2 : 63 < ((y.toNat : Nat) : Int)
          · go_wp2_with (refine (refcut_bad hl2 HCU.out).mono ?_; rintro e w2 ⟨rfl, rfl⟩)
            go_ret2
            rw [HDN.out]
            exact ⟨_, [], w.heap.size, rfl, OwnI.nil _ _, rfl, hb, Nat.le_refl _⟩
          · go_wp2_with (refine (refcut_bad hl2 HCU.out).mono ?_; rintro e w2 ⟨rfl, rfl⟩)
            go_ret2
            rw [HDN.out]
            exact ⟨_, [], w.heap.size, rfl, OwnI.nil _ _, rfl, hb, Nat.le_refl _⟩
      · obtain ⟨q1', q2, q3⟩ := hone' n m hcut
        have q1 : (m : Int) ≤ (rest.length : Int) - 1 := by have := HTL.out; omega
        clear q1' hone'
        have HCU := Lib.hid hcut
        clear hcut
        have hm0 : ((m : Int) == 0) = false := beq_eq_false_iff_ne.2 (by omega)
        have hl2 := ht.of_new hb
        by_cases hk : ((y.toNat : Nat) : Int) ≤ last ∨ 63 < ((y.toNat : Nat) : Int)
        · have HDN := Lib.hid (hbadk hk)
          clear hbadk
          by_cases h1 : ((y.toNat : Nat) : Int) ≤ last
          · clear hk
            go_wp2_with (refine (refcut_good hl2 HCU.out).mono ?_; rintro e w2 ⟨rfl, rfl⟩)
            go_ret2
            rw [HDN.out]
            exact ⟨_, [], w.heap.size, rfl, OwnI.nil _ _, rfl, hb, Nat.le_refl _⟩
          · have h2 := hk.resolve_left h1
            clear hk
            go_wp2_with (refine (refcut_good hl2 HCU.out).mono ?_; rintro e w2 ⟨rfl, rfl⟩)
            go_ret2
            rw [HDN.out]
            exact ⟨_, [], w.heap.size, rfl, OwnI.nil _ _, rfl, hb, Nat.le_refl _⟩
        clear hbadk
        have h1 : ¬ ((y.toNat : Nat) : Int) ≤ last := fun h => hk (.inl h)
        have h2 : ¬ 63 < ((y.toNat : Nat) : Int) := fun h => hk (.inr h)
        clear hk
        have hr60 : rest.length ≤ 65536 := by omega
        have s1 : IntKind.i64.wrap ((rest.length : Int) - 1) = (rest.length : Int) - 1 := IntWalk.i64_in _ (by omega)
        have s2 : IntKind.i64.wrap ((rest.length : Int) - 1 - (m : Int)) = (rest.length : Int) - 1 - (m : Int) := IntWalk.i64_in _ (by omega)
        have s3 : IntKind.u64.wrap ((rest.length : Int) - 1 - (m : Int)) = (rest.length : Int) - 1 - (m : Int) := IntWalk.u64_in _ (by omega)
        by_cases h3 : (rest.length : Int) - 1 - (m : Int) < (n : Int)
        · have hbd : oneI rest = none := by
            rw [HONE.out, HCU.out]
            simp only
            rw [if_pos (by simp only [List.length_drop]; have := HTL.out; omega)]
          have HDN := Lib.hid (HNO.out (by rw [HBAD.out hbd]; exact HYN.out))
          clear hbd
          go_wp2_with (refine (refcut_good hl2 HCU.out).mono ?_; rintro e w2 ⟨rfl, rfl⟩)
          go_ret2
          rw [HDN.out]
          exact ⟨_, [], w.heap.size, rfl, OwnI.nil _ _, rfl, hb, Nat.le_refl _⟩
        · have hone2 : oneI rest = some ((((y.toNat : Nat) : Int), (t.drop m).take n), (t.drop m).drop n) := by
            rw [HONE.out, HCU.out]
            simp only
            rw [if_neg (by simp only [List.length_drop]; have := HTL.out; omega)]
          obtain ⟨b1, hr1, hb1, _⟩ := HPART.out.part (P := Tryz.prog) (t := 33) Tryz.underlying33 hi hz1 (some (.int .i64 (1 + (m : Int)))) (some (.int .i64 (1 + (m : Int) + (n : Int)))) (1 + m) (1 + m + n) (by omega) (by omega) (.inr ⟨.i64, by congr 1⟩) (.inr ⟨.i64, by congr 1⟩)
          obtain ⟨b2, hr2, hb2, _⟩ := HPART.out.part (P := Tryz.prog) (t := 33) Tryz.underlying33 hi hz1 (some (.int .i64 (1 + (m : Int) + (n : Int)))) none (1 + m + n) rest.length (by omega) (Nat.le_refl _) (.inr ⟨.i64, by congr 1⟩) (.inl ⟨rfl, rfl⟩)
          have e1 : (rest.drop (1 + m)).take (1 + m + n - (1 + m)) = (t.drop m).take n := by rw [HRD.out, show 1 + m + n - (1 + m) = n by omega]
          have e2 : (rest.drop (1 + m + n)).take (rest.length - (1 + m + n)) = (t.drop m).drop n := by rw [HRD.out, List.take_of_length_le (by simp), List.drop_drop]
          rw [e1] at hb1
          rw [e2] at hb2
          have hstep := HST.out _ _ hone2
          have hdl : ((t.drop m).take n).length = n := by simp only [List.length_take, List.length_drop]; have := HTL.out; omega
          have hdr : ((t.drop m).drop n).length = rest.length - 1 - m - n := by simp only [List.length_drop]; have := HTL.out; omega
          generalize (t.drop m).take n = d at *
          generalize (t.drop m).drop n = rr at *
          obtain ⟨da, dc, hv⟩ := hb1.len
          subst hv
          obtain ⟨rra, rrc, hv⟩ := hb2.len
          subst hv
          have hO0 : Own8 (wr.alloc (.cells #[] 5)) wr.heap.size 5 (.slice (some ⟨wr.heap.size, 0, none⟩) 0 0) [] := World.ownsRow_made wr #[] 0 (Nat.le_refl _) (by unfold maxLen; omega) rfl
          have HO := Lib.hid hO0
          have HB := Lib.hid ((hb1.of_new hb).of_alloc (.cells #[] 5))
          have HB2 := Lib.hid hb2
          have HOW := Lib.hid hown
          have HST2 := Lib.hid hstep
          have hnr : (n : Int) ≤ (rest.length : Int) - 1 - (m : Int) := by omega
          have hdl2 : d.length ≤ 65536 := by omega
          have hrl : rr.length < rest.length := by omega
          have hpl : pre.length + 1 + rr.length ≤ 65536 := by omega
          have hwb := hb.size
          have HBE := Lib.hid hb
          clear hb1 hb2 hown hO0 hstep hone2 e1 e2 hb hdl hdr
          go_wp2_with (first | (refine (refcut_good hl2 HCU.out).mono ?_; rintro e w2 ⟨rfl, hq⟩; subst w2) | (at_builtin; go_loud (refine wpList_app8 rfl (.tmp 61) (.tmp 62) 33 rfl wr.heap.size 5 i0 Tryz.underlying33 hi hz0 hz1 hz2 _ [] rfl HO.out _ d rfl HB.out ?c1 ?c2 ?_)))
          case c1 => simp; omega
          case c2 => simp
          intro v1 w1 hown1 hg1 _
          have hbn : Below wr.heap.size wr w1 := ((Below.refl _ wr).alloc (Nat.le_refl _) _).grown hg1 (by simp) (fun j hj => (HO.out.lt j hj).1)
          obtain ⟨v1a, v1c, hv⟩ := hown1.bytes.len
          subst hv
          have hown2 : OwnI w1 w.heap.size (.slice oa pre.length oc) pre := HOW.out.keep fun k _ hk2 => hbn.block k hk2
          obtain ⟨Y, hY⟩ : ∃ Y, w1.alloc (.cells #[.int .i64 (y.toNat : Int), .slice v1a d.length v1c] 110) = Y := ⟨_, rfl⟩
          have hYn : Y.heap[w1.heap.size]? = some (.cells #[.int .i64 (y.toNat : Int), .slice v1a d.length v1c] 110 (0, 0)) := by rw [← hY]; exact heap_alloc_new w1 _
          have hYb : Below w1.heap.size w1 Y := by rw [← hY]; exact (Below.refl _ w1).alloc (Nat.le_refl _) _
          have hYo : OwnI Y w.heap.size (.slice oa pre.length oc) pre := hown2.keep fun k _ hk2 => hYb.block k hk2
          have hY8 : Own8 Y w.heap.size 5 (.slice v1a d.length v1c) d := (hown1.new hYb).mono hwb
          have hYs : w.heap.size ≤ Y.heap.size := by have q1 := hbn.size; have q2 := hYb.size; omega
          have hYB : Below w.heap.size w Y := below_next' (below_next HBE.out (hbn.mono (Nat.le_refl _))) hYb (by have q1 := hbn.size; omega)
          have HY := Lib.hid hY
          have HYN := Lib.hid hYn
          have HYO := Lib.hid hYo
          have HY8 := Lib.hid hY8
          have HYB := Lib.hid hYB
          clear hY hYn hYo hY8 hYb hYB hown2 hown1 hg1 hbn HO HB
          go_wp2_with (at_builtin; rw [HY.out]; go_loud (refine wpList_plain rfl fun K hK => wp_appI (.tmp 59) (.tmp 65) rfl w.heap.size _ pre ((y.toNat, d), .slice v1a d.length v1c) w1.heap.size rfl HYO.out rfl HY8.out HYN.out (by omega) hYs fun v2 w3 ho2 hg2 hv2 => hK _ _ ?_))
          obtain ⟨v2a, v2c, hv⟩ := ho2.len
          rw [List.length_append] at hv
          subst hv
          have HO2 := Lib.hid ho2
          clear ho2
          go_wp2
          have hc2 : checkF (itemsL rest) last = (checkF (itemsL rr) (y.toNat : Int)).map ((((y.toNat : Nat) : Int), d) :: ·) := by
            rw [HST2.out]
            simp only [checkF]
            rw [if_neg (by omega)]
          refine ⟨⟨pre ++ [(((y.toNat : Int), d), .slice v1a d.length v1c)], _, rr, HO2.out, HB2.out, rfl, by omega, by omega, by simp; omega, ?_, ?_⟩, hrl⟩
          · rw [HEQ.out, hc2]
            cases checkF (itemsL rr) (y.toNat : Int) <;> simp
          · exact HYB.out.grown hg2 (by have := HYB.out.size; omega) (fun k e => (HYO.out.lt k e).1)
    · have hn : ¬ (0 : Int) < (rest.length : Int) := by omega
      have hr : rest = [] := List.eq_nil_of_length_eq_zero (by omega)
      have hd : decL b = some (pre.map (·.1)) := by rw [HD.out, HEQ.out, hr]; simp [itemsL_nil, checkF]
      have HDN := Lib.hid hd
      clear hd hr
      go_wp2
      go_ret2
      rw [HDN.out]
      exact ⟨_, pre, w.heap.size, rfl, hown, rfl, hb, Nat.le_refl _⟩

end Go.Proofs.YtnohglkilpnjhaaGreatDoor

/- Strings of bytes compared. No condition. -/
namespace Go.Proofs.YtnohglkilpnjhaaGreatDoor
open Go.RowKit
set_option linter.unusedVariables false

theorem str_eq (x y : List UInt8) : ((ByteArray.mk x.toArray) == (ByteArray.mk y.toArray)) = decide (x = y) := by
  have h : ((ByteArray.mk x.toArray) == (ByteArray.mk y.toArray)) = (x.toArray == y.toArray) := rfl
  rw [h, Bool.eq_iff_iff]
  simp
theorem str_same (x : List UInt8) : ((ByteArray.mk x.toArray) == (ByteArray.mk x.toArray)) = true := by rw [str_eq]; simp

end Go.Proofs.YtnohglkilpnjhaaGreatDoor
