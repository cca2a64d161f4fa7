/- The walk of wire.Right: whether a message may be. No condition. -/
import Derived.Test.YtnomekfemadpeaaWrBare
namespace Go.Proofs.Ytnomekfemadpeaa
open Go.RowKit
set_option linter.unusedVariables false
set_option linter.unusedSimpArgs false
set_option maxRecDepth 100000

theorem rightF_step (m : MsgL) {k : Nat} (h1 : k ≤ 8) : rightF m (9 - k) k = (itemB m k && rightF m (9 - (k + 1)) ((k + 1 : Nat) : Int)) := by
  rw [show 9 - k = (9 - (k + 1)) + 1 by omega, rightF]
  simp
theorem rightF_end (m : MsgL) (k : Int) : rightF m (9 - 9) k = true := rfl
theorem rightB_from (m : MsgL) : rightB m = rightF m (9 - 1) ((1 : Nat) : Int) := rfl

set_option maxHeartbeats 3200000 in
theorem Right_any (m : MsgL) (s : MsgS) (w : World) (hm : MsgR w m s) :
    Calls Try.prog 12 #[MsgV m s] w fun e w' => e = .returned (.bool (rightB m)) ∧ Below w.heap.size w w' := by
  obtain ⟨W, hW, ho, hb⟩ := msg_boxed w (s := s) hm.hash
  obtain ⟨V, hV⟩ : ∃ V, MsgV m s = V := ⟨_, rfl⟩
  have hH := has_any m.kind W
  have e0 := ho.kind
  have hls := ho.lt
  have HM := Lib.hid hm
  have HO := Lib.hid ho
  have HW := Lib.hid hW
  obtain ⟨B, hB⟩ : ∃ B, rightB m = B := ⟨_, rfl⟩
  rw [hB]
  have HB := Lib.hid (hB.symm.trans (rightB_from m))
  rw [show MsgV m s = .agg (msgCells m s).toArray from rfl] at hV ⊢
  clear hW hm ho hB hV
  go_enter Try.func12, Try.ntmps12
  go_upto_region 1 with (fail)
  rw [HW.out]
  go_wp2_with (first | (go_at_call 17; refine hH.mono ?_; rintro e w2 ⟨v2, rfl, hv2, hb2⟩; obtain ⟨a2, c2, hv⟩ := hv2.len; subst hv; have HV := Lib.hid hv2; have HO2 := Lib.hid (HO.out.of_new hb2); have hbA := below_next hb hb2; clear hv2 hb2))
  go_loopw [4, 5] (fun iv _ W' => ∃ k : Nat, 1 ≤ k ∧ k ≤ 9 ∧ iv = .int .i64 k ∧ B = rightF m (9 - k) k ∧ Below w2.heap.size w2 W') (fun iv _ _ => 9 - (intOf iv).toNat)
  case atStart => exact ⟨1, by omega, by omega, rfl, HB.out, Below.refl _ _⟩
  case round =>
    obtain ⟨k, hk1, hk9, rfl, hm, hbk⟩ := hrel
    by_cases hlt : k ≤ 8
    · rw [rightF_step m hlt] at hm
      have hbw := below_next hbA hbk
      have HOk := Lib.hid (HO2.out.of_new hbk)
      have hC := Contains_any _ (hasL m.kind) k wr (HV.out.of_new hbk)
      have hF := fun w' (h : Below wr.heap.size wr w') => fits_any m s k w' (HM.out.of_new (below_next hbw h)) (by omega) (by omega)
      have hR := fun w' (h : Below wr.heap.size wr w') => bare_any m s k w' (HM.out.of_new (below_next hbw h)) (by omega) (by omega)
      generalize hQ : rightF m (9 - (k + 1)) ((k + 1 : Nat) : Int) = Q at *
      have HQ := Lib.hid hQ
      unfold itemB at hm
      clear hQ
      by_cases hin : (k : Int) ∈ hasL m.kind
      · rw [decide_eq_true hin] at hC
        rw [if_pos hin] at hm
        clear hin hR
        generalize fitsB m k = F at *
        have HN := Lib.hid hm
        clear hm
        cases F with
        | false =>
          go_wp2_with (first
            | (go_at_call 23; refine hC.mono ?_; rintro e w3 ⟨rfl, hb3⟩; have HO3 := Lib.hid (HOk.out.of_new hb3))
            | ((with_reducible refine wpList_met (o := ⟨some 18, _, _, _, _, _⟩) ?_ ?_); rfl; intro K hK; refine wp_load_msg (g := w.heap.size) (m := m) (s := s) rfl rfl HO3.out (hK _ _ ?_))
            | (go_at_call 24; refine (hF _ hb3).mono ?_; rintro e w4 ⟨rfl, hb4⟩))
          go_ret
          exact ⟨ret_bool (by rw [HN.out]; rfl), below_next (below_next hbw hb3) hb4⟩
        | true =>
          go_wp2_with (first
            | (go_at_call 23; refine hC.mono ?_; rintro e w3 ⟨rfl, hb3⟩; have HO3 := Lib.hid (HOk.out.of_new hb3))
            | ((with_reducible refine wpList_met (o := ⟨some 18, _, _, _, _, _⟩) ?_ ?_); rfl; intro K hK; refine wp_load_msg (g := w.heap.size) (m := m) (s := s) rfl rfl HO3.out (hK _ _ ?_))
            | (go_at_call 24; refine (hF _ hb3).mono ?_; rintro e w4 ⟨rfl, hb4⟩))
          go_roundw
          case rel => exact ⟨k + 1, by omega, by omega, by go_num, by rw [HN.out, HQ.out]; rfl, below_next (below_next hbk hb3) hb4⟩
          case measure => simp [intOf]; omega
      · rw [decide_eq_false hin] at hC
        rw [if_neg hin] at hm
        clear hin hF
        generalize bareB m k = F at *
        have HN := Lib.hid hm
        clear hm
        cases F with
        | false =>
          go_wp2_with (first
            | (go_at_call 23; refine hC.mono ?_; rintro e w3 ⟨rfl, hb3⟩; have HO3 := Lib.hid (HOk.out.of_new hb3))
            | ((with_reducible refine wpList_met (o := ⟨some 27, _, _, _, _, _⟩) ?_ ?_); rfl; intro K hK; refine wp_load_msg (g := w.heap.size) (m := m) (s := s) rfl rfl HO3.out (hK _ _ ?_))
            | (go_at_call 25; refine (hR _ hb3).mono ?_; rintro e w4 ⟨rfl, hb4⟩))
          go_ret
          exact ⟨ret_bool (by rw [HN.out]; rfl), below_next (below_next hbw hb3) hb4⟩
        | true =>
          go_wp2_with (first
            | (go_at_call 23; refine hC.mono ?_; rintro e w3 ⟨rfl, hb3⟩; have HO3 := Lib.hid (HOk.out.of_new hb3))
            | ((with_reducible refine wpList_met (o := ⟨some 27, _, _, _, _, _⟩) ?_ ?_); rfl; intro K hK; refine wp_load_msg (g := w.heap.size) (m := m) (s := s) rfl rfl HO3.out (hK _ _ ?_))
            | (go_at_call 25; refine (hR _ hb3).mono ?_; rintro e w4 ⟨rfl, hb4⟩))
          go_roundw
          case rel => exact ⟨k + 1, by omega, by omega, by go_num, by rw [HN.out, HQ.out]; rfl, below_next (below_next hbk hb3) hb4⟩
          case measure => simp [intOf]; omega
    · obtain rfl : k = 9 := by omega
      rw [rightF_end] at hm
      have HN := Lib.hid hm
      clear hm
      go_wp2
      go_ret
      exact ⟨ret_bool HN.out.symm, below_next hbA hbk⟩

end Go.Proofs.Ytnomekfemadpeaa
