/- The walk of the law WireMore: it answers true. No condition. -/
import Derived.Test.YtnomekfemadpeaaWrLawFew
import Derived.Test.YtnomekfemadpeaaWrMorePlain
namespace Go.Proofs.Ytnomekfemadpeaa
open Go.RowKit
set_option linter.unusedVariables false
set_option linter.unusedSimpArgs false
set_option maxRecDepth 100000

theorem MsgO.free {w : World} {g : Nat} {m : MsgL} {s : MsgS} (h : MsgO w g m s) (j : Nat) : w.frozen? ⟨g, j, none⟩ = false := by
  simp [World.frozen?, h.1]
theorem MsgO.stored {w : World} {g : Nat} {m m' : MsgL} {s s' : MsgS} (h : MsgO w g m s) (j : Nat) (v : Value) (hc : (msgCells m s).set j v = msgCells m' s') (hh : m'.hash.length = 32) : MsgO (w.setCell ⟨g, j, none⟩ v) g m' s' := by
  refine ⟨?_, hh⟩
  have := heap_setCell_same w g j _ _ v h.1
  rw [this, ← hc]
  simp
theorem msgCells_set (m : MsgL) (s : MsgS) (h : m.hash.length = 32) (j : Nat) (v : Value) : (msgCells m s).set (33 + j) v = .int .i64 m.kind :: (m.hash.map B8 ++ ([.int .i64 m.piece, s.vi, s.vb, s.vp, s.vm, .bool m.seed] : List Value).set j v) := by
  unfold msgCells
  rw [show 33 + j = (32 + j) + 1 by omega, List.set_cons_succ, List.set_append_right _ _ (by simp [h])]
  simp [h]
theorem msgO_of_heap {w w' : World} {g : Nat} {m : MsgL} {s : MsgS} (h : MsgO w g m s) (e : w'.heap[g]? = w.heap[g]?) : MsgO w' g m s := h.of_block e

/-- A new message's bytes: what Right and Encode tell of one that may not be. -/
theorem enc_not {m : MsgL} (h : rightB m = false) : encM m = none := by unfold encM; rw [h]; rfl

set_option maxHeartbeats 12800000 in
theorem WireMore_walk (m : MsgL) (s : MsgS) (which : Int) (w : World) (hm : MsgR w m s) (h1 : -9223372036854775808 ≤ which) (h2 : which ≤ 9223372036854775807) :
    Calls Try.prog 5 #[MsgV m s, .int .i64 which] w fun e w' => e = .returned (.bool true) ∧ Below w.heap.size w w' := by
  obtain ⟨W, hW, ho, hb⟩ := msg_boxed w (s := s) hm.hash
  rw [show MsgV m s = .agg (msgCells m s).toArray from rfl]
  have HM := Lib.hid hm
  have HO := Lib.hid ho
  have HW := Lib.hid hW
  clear hW hm ho
  go_enter Try.func5, Try.ntmps5
  go_upto_region 1 with (fail)
  rw [HW.out]
  go_wp2_with fail
  refine (awake17_any W).mono ?_
  rintro e w1 ⟨rfl, hb1⟩
  have hbA := below_next hb hb1
  have HO1 := Lib.hid (HO.out.of_new hb1)
  clear hb1
  go_upto_region 3 with (first
    | ((with_reducible refine wpList_plain (o := ⟨some 12, Op.load 29 _, _, _, _, _⟩) rfl fun K hK => ?_); (refine wp_load_msg (g := w.heap.size) (m := m) (s := s) rfl rfl HO1.out (hK _ _ ?_)))
    | (go_at_call 9; refine (few17_any m s _ (HM.out.of_new hbA)).mono ?_; rintro e w2 ⟨rfl, hb2⟩))
  have hbB := below_next hbA hb2
  have HO2 := Lib.hid (HO1.out.of_new hb2)
  clear hb2
  go_upto_region 4 with (first
    | ((with_reducible refine wpList_plain (o := ⟨some 14, Op.load 29 _, _, _, _, _⟩) rfl fun K hK => ?_); (refine wp_load_msg (g := w.heap.size) (m := m) (s := s) rfl rfl HO2.out (hK _ _ ?_)))
    | (go_at_call 12; refine (Right_any m s _ (HM.out.of_new hbB)).mono ?_; rintro e w3 ⟨rfl, hb3⟩))
  have hbC := below_next hbB hb3
  have HO3 := Lib.hid (HO2.out.of_new hb3)
  have hg3 := HO3.out.lt
  clear hb3 HO HO1 HO2
  rcases hf : fewB m with _ | _
  · go_wp2
    go_ret
    exact ⟨rfl, hbC⟩
  clear hf
  rcases hr : rightB m with _ | _
  · go_wp2
    go_ret
    exact ⟨rfl, hbC⟩
  clear hr
  have e0 := HO3.out.kind
  by_cases q0 : which = 0
  · have t0 : (which == 0) = true := beq_iff_eq.2 q0
    clear q0
    clear h1 h2
    have ef := HO3.out.free 0
    go_upto_region 26 with (fail)
    generalize hW4 : World.setCell w3 _ _ = w4
    obtain ⟨hot, hbt4⟩ : MsgO w4 w.heap.size ({ m with kind := 0 }) (s) ∧ Below w.heap.size w w4 := by
      subst hW4
      exact ⟨HO3.out.stored 0 _ (by unfold msgCells; rfl) HM.out.hash, hbC.setCell (p := ⟨w.heap.size, 0, none⟩) (Nat.le_refl _) _⟩
    clear hW4 ef
    have HOt := Lib.hid (hot : MsgO w4 w.heap.size ({ m with kind := 0 }) (s))
    have HRt := Lib.hid (⟨HM.out.hash, HM.out.ids.of_new hbt4, HM.out.bytes.of_new hbt4, HM.out.proof.of_new hbt4, HM.out.members.of_new hbt4⟩ : MsgR w4 ({ m with kind := 0 }) (s))
    have hbt := Lib.hid (hbt4 : Below w.heap.size w w4)
    have hnr : rightB ({ m with kind := 0 }) = false := more_kind (.inl rfl)
    have hRi := fun w' (h : Below w.heap.size w w') (h2 : Below w4.heap.size w4 w') => Right_any _ _ w' (HRt.out.of_new h2)
    have hEn := fun w' (h2 : Below w4.heap.size w4 w') => Encode17_any _ _ w' (HRt.out.of_new h2)
    rw [hnr] at hRi
    rw [enc_not hnr] at hEn
    have HRi := Lib.hid (hRi _ hbt.out (Below.refl _ _))
    have HEn := Lib.hid hEn
    clear hnr hRi hEn
    go_upto_region 27 with (first
      | ((with_reducible refine wpList_plain (o := ⟨some 90, Op.load 29 _, _, _, _, _⟩) rfl fun K hK => ?_); (refine wp_load_msg (g := w.heap.size) rfl rfl HOt.out (hK _ _ ?_)))
      | (go_at_call 12; refine HRi.out.mono ?_; rintro e w5 ⟨rfl, hb5⟩; have HO5 := Lib.hid (HOt.out.of_new hb5)))
    have hb6 := below_next hbt.out hb5
    go_upto_region 28 with (first
      | ((with_reducible refine wpList_plain (o := ⟨some 93, Op.load 29 _, _, _, _, _⟩) rfl fun K hK => ?_); (refine wp_load_msg (g := w.heap.size) rfl rfl HO5.out (hK _ _ ?_)))
      | (go_at_call 10; refine (HEn.out _ hb5).mono ?_; rintro e w7 ⟨hb7, v7, rfl⟩))
    go_wp2
    go_ret
    exact ⟨rfl, below_next hb6 hb7⟩
  have t0 : (which == 0) = false := beq_eq_false_iff_ne.2 q0
  by_cases q1 : which = 1
  · have t1 : (which == 1) = true := beq_iff_eq.2 q1
    clear q0 q1
    clear h1 h2
    have ef := HO3.out.free 0
    go_upto_region 26 with (fail)
    generalize hW4 : World.setCell w3 _ _ = w4
    obtain ⟨hot, hbt4⟩ : MsgO w4 w.heap.size ({ m with kind := 12 }) (s) ∧ Below w.heap.size w w4 := by
      subst hW4
      exact ⟨HO3.out.stored 0 _ (by unfold msgCells; rfl) HM.out.hash, hbC.setCell (p := ⟨w.heap.size, 0, none⟩) (Nat.le_refl _) _⟩
    clear hW4 ef
    have HOt := Lib.hid (hot : MsgO w4 w.heap.size ({ m with kind := 12 }) (s))
    have HRt := Lib.hid (⟨HM.out.hash, HM.out.ids.of_new hbt4, HM.out.bytes.of_new hbt4, HM.out.proof.of_new hbt4, HM.out.members.of_new hbt4⟩ : MsgR w4 ({ m with kind := 12 }) (s))
    have hbt := Lib.hid (hbt4 : Below w.heap.size w w4)
    have hnr : rightB ({ m with kind := 12 }) = false := more_kind (.inr rfl)
    have hRi := fun w' (h : Below w.heap.size w w') (h2 : Below w4.heap.size w4 w') => Right_any _ _ w' (HRt.out.of_new h2)
    have hEn := fun w' (h2 : Below w4.heap.size w4 w') => Encode17_any _ _ w' (HRt.out.of_new h2)
    rw [hnr] at hRi
    rw [enc_not hnr] at hEn
    have HRi := Lib.hid (hRi _ hbt.out (Below.refl _ _))
    have HEn := Lib.hid hEn
    clear hnr hRi hEn
    go_upto_region 27 with (first
      | ((with_reducible refine wpList_plain (o := ⟨some 90, Op.load 29 _, _, _, _, _⟩) rfl fun K hK => ?_); (refine wp_load_msg (g := w.heap.size) rfl rfl HOt.out (hK _ _ ?_)))
      | (go_at_call 12; refine HRi.out.mono ?_; rintro e w5 ⟨rfl, hb5⟩; have HO5 := Lib.hid (HOt.out.of_new hb5)))
    have hb6 := below_next hbt.out hb5
    go_upto_region 28 with (first
      | ((with_reducible refine wpList_plain (o := ⟨some 93, Op.load 29 _, _, _, _, _⟩) rfl fun K hK => ?_); (refine wp_load_msg (g := w.heap.size) rfl rfl HO5.out (hK _ _ ?_)))
      | (go_at_call 10; refine (HEn.out _ hb5).mono ?_; rintro e w7 ⟨hb7, v7, rfl⟩))
    go_wp2
    go_ret
    exact ⟨rfl, below_next hb6 hb7⟩
  have t1 : (which == 1) = false := beq_eq_false_iff_ne.2 q1
  by_cases q2 : which = 2
  · have t2 : (which == 2) = true := beq_iff_eq.2 q2
    have e3 := HO3.out.piece
    clear q0 q1 q2
    by_cases k4 : m.kind = 4
    · have u4 : (m.kind == 4) = true := beq_iff_eq.2 k4
      have HK := Lib.hid k4
      clear k4
      clear h1 h2
      have ef := HO3.out.free 33
      go_upto_region 26 with (fail)
      generalize hW4 : World.setCell w3 _ _ = w4
      obtain ⟨hot, hbt4⟩ : MsgO w4 w.heap.size ({ m with piece := 1024 }) (s) ∧ Below w.heap.size w w4 := by
        subst hW4
        exact ⟨HO3.out.stored 33 _ (by rw [show (33 : Nat) = 33 + 0 from rfl, msgCells_set m s HM.out.hash]; rfl) HM.out.hash, hbC.setCell (p := ⟨w.heap.size, 33, none⟩) (Nat.le_refl _) _⟩
      clear hW4 ef
      have HOt := Lib.hid (hot : MsgO w4 w.heap.size ({ m with piece := 1024 }) (s))
      have HRt := Lib.hid (⟨HM.out.hash, HM.out.ids.of_new hbt4, HM.out.bytes.of_new hbt4, HM.out.proof.of_new hbt4, HM.out.members.of_new hbt4⟩ : MsgR w4 ({ m with piece := 1024 }) (s))
      have hbt := Lib.hid (hbt4 : Below w.heap.size w w4)
      have hnr : rightB ({ m with piece := 1024 }) = false := more_piece1 (.inl HK.out)
      have hRi := fun w' (h : Below w.heap.size w w') (h2 : Below w4.heap.size w4 w') => Right_any _ _ w' (HRt.out.of_new h2)
      have hEn := fun w' (h2 : Below w4.heap.size w4 w') => Encode17_any _ _ w' (HRt.out.of_new h2)
      rw [hnr] at hRi
      rw [enc_not hnr] at hEn
      have HRi := Lib.hid (hRi _ hbt.out (Below.refl _ _))
      have HEn := Lib.hid hEn
      clear hnr hRi hEn
      go_upto_region 27 with (first
        | ((with_reducible refine wpList_plain (o := ⟨some 90, Op.load 29 _, _, _, _, _⟩) rfl fun K hK => ?_); (refine wp_load_msg (g := w.heap.size) rfl rfl HOt.out (hK _ _ ?_)))
        | (go_at_call 12; refine HRi.out.mono ?_; rintro e w5 ⟨rfl, hb5⟩; have HO5 := Lib.hid (HOt.out.of_new hb5)))
      have hb6 := below_next hbt.out hb5
      go_upto_region 28 with (first
        | ((with_reducible refine wpList_plain (o := ⟨some 93, Op.load 29 _, _, _, _, _⟩) rfl fun K hK => ?_); (refine wp_load_msg (g := w.heap.size) rfl rfl HO5.out (hK _ _ ?_)))
        | (go_at_call 10; refine (HEn.out _ hb5).mono ?_; rintro e w7 ⟨hb7, v7, rfl⟩))
      go_wp2
      go_ret
      exact ⟨rfl, below_next hb6 hb7⟩
    have u4 : (m.kind == 4) = false := beq_eq_false_iff_ne.2 k4
    by_cases k2 : m.kind = 2
    · have u2 : (m.kind == 2) = true := beq_iff_eq.2 k2
      have HK := Lib.hid k2
      clear k2
      clear h1 h2
      have ef := HO3.out.free 33
      go_upto_region 26 with (fail)
      generalize hW4 : World.setCell w3 _ _ = w4
      obtain ⟨hot, hbt4⟩ : MsgO w4 w.heap.size ({ m with piece := 1024 }) (s) ∧ Below w.heap.size w w4 := by
        subst hW4
        exact ⟨HO3.out.stored 33 _ (by rw [show (33 : Nat) = 33 + 0 from rfl, msgCells_set m s HM.out.hash]; rfl) HM.out.hash, hbC.setCell (p := ⟨w.heap.size, 33, none⟩) (Nat.le_refl _) _⟩
      clear hW4 ef
      have HOt := Lib.hid (hot : MsgO w4 w.heap.size ({ m with piece := 1024 }) (s))
      have HRt := Lib.hid (⟨HM.out.hash, HM.out.ids.of_new hbt4, HM.out.bytes.of_new hbt4, HM.out.proof.of_new hbt4, HM.out.members.of_new hbt4⟩ : MsgR w4 ({ m with piece := 1024 }) (s))
      have hbt := Lib.hid (hbt4 : Below w.heap.size w w4)
      have hnr : rightB ({ m with piece := 1024 }) = false := more_piece1 (.inr (.inl HK.out))
      have hRi := fun w' (h : Below w.heap.size w w') (h2 : Below w4.heap.size w4 w') => Right_any _ _ w' (HRt.out.of_new h2)
      have hEn := fun w' (h2 : Below w4.heap.size w4 w') => Encode17_any _ _ w' (HRt.out.of_new h2)
      rw [hnr] at hRi
      rw [enc_not hnr] at hEn
      have HRi := Lib.hid (hRi _ hbt.out (Below.refl _ _))
      have HEn := Lib.hid hEn
      clear hnr hRi hEn
      go_upto_region 27 with (first
        | ((with_reducible refine wpList_plain (o := ⟨some 90, Op.load 29 _, _, _, _, _⟩) rfl fun K hK => ?_); (refine wp_load_msg (g := w.heap.size) rfl rfl HOt.out (hK _ _ ?_)))
        | (go_at_call 12; refine HRi.out.mono ?_; rintro e w5 ⟨rfl, hb5⟩; have HO5 := Lib.hid (HOt.out.of_new hb5)))
      have hb6 := below_next hbt.out hb5
      go_upto_region 28 with (first
        | ((with_reducible refine wpList_plain (o := ⟨some 93, Op.load 29 _, _, _, _, _⟩) rfl fun K hK => ?_); (refine wp_load_msg (g := w.heap.size) rfl rfl HO5.out (hK _ _ ?_)))
        | (go_at_call 10; refine (HEn.out _ hb5).mono ?_; rintro e w7 ⟨hb7, v7, rfl⟩))
      go_wp2
      go_ret
      exact ⟨rfl, below_next hb6 hb7⟩
    have u2 : (m.kind == 2) = false := beq_eq_false_iff_ne.2 k2
    by_cases k3 : m.kind = 3
    · have u3 : (m.kind == 3) = true := beq_iff_eq.2 k3
      have HK := Lib.hid k3
      clear k3
      clear h1 h2
      have ef := HO3.out.free 33
      go_upto_region 26 with (fail)
      generalize hW4 : World.setCell w3 _ _ = w4
      obtain ⟨hot, hbt4⟩ : MsgO w4 w.heap.size ({ m with piece := 1024 }) (s) ∧ Below w.heap.size w w4 := by
        subst hW4
        exact ⟨HO3.out.stored 33 _ (by rw [show (33 : Nat) = 33 + 0 from rfl, msgCells_set m s HM.out.hash]; rfl) HM.out.hash, hbC.setCell (p := ⟨w.heap.size, 33, none⟩) (Nat.le_refl _) _⟩
      clear hW4 ef
      have HOt := Lib.hid (hot : MsgO w4 w.heap.size ({ m with piece := 1024 }) (s))
      have HRt := Lib.hid (⟨HM.out.hash, HM.out.ids.of_new hbt4, HM.out.bytes.of_new hbt4, HM.out.proof.of_new hbt4, HM.out.members.of_new hbt4⟩ : MsgR w4 ({ m with piece := 1024 }) (s))
      have hbt := Lib.hid (hbt4 : Below w.heap.size w w4)
      have hnr : rightB ({ m with piece := 1024 }) = false := more_piece1 (.inr (.inr (.inl HK.out)))
      have hRi := fun w' (h : Below w.heap.size w w') (h2 : Below w4.heap.size w4 w') => Right_any _ _ w' (HRt.out.of_new h2)
      have hEn := fun w' (h2 : Below w4.heap.size w4 w') => Encode17_any _ _ w' (HRt.out.of_new h2)
      rw [hnr] at hRi
      rw [enc_not hnr] at hEn
      have HRi := Lib.hid (hRi _ hbt.out (Below.refl _ _))
      have HEn := Lib.hid hEn
      clear hnr hRi hEn
      go_upto_region 27 with (first
        | ((with_reducible refine wpList_plain (o := ⟨some 90, Op.load 29 _, _, _, _, _⟩) rfl fun K hK => ?_); (refine wp_load_msg (g := w.heap.size) rfl rfl HOt.out (hK _ _ ?_)))
        | (go_at_call 12; refine HRi.out.mono ?_; rintro e w5 ⟨rfl, hb5⟩; have HO5 := Lib.hid (HOt.out.of_new hb5)))
      have hb6 := below_next hbt.out hb5
      go_upto_region 28 with (first
        | ((with_reducible refine wpList_plain (o := ⟨some 93, Op.load 29 _, _, _, _, _⟩) rfl fun K hK => ?_); (refine wp_load_msg (g := w.heap.size) rfl rfl HO5.out (hK _ _ ?_)))
        | (go_at_call 10; refine (HEn.out _ hb5).mono ?_; rintro e w7 ⟨hb7, v7, rfl⟩))
      go_wp2
      go_ret
      exact ⟨rfl, below_next hb6 hb7⟩
    have u3 : (m.kind == 3) = false := beq_eq_false_iff_ne.2 k3
    by_cases k5 : m.kind = 5
    · have u5 : (m.kind == 5) = true := beq_iff_eq.2 k5
      have HK := Lib.hid k5
      clear k5
      clear h1 h2
      have ef := HO3.out.free 33
      go_upto_region 26 with (fail)
      generalize hW4 : World.setCell w3 _ _ = w4
      obtain ⟨hot, hbt4⟩ : MsgO w4 w.heap.size ({ m with piece := 1024 }) (s) ∧ Below w.heap.size w w4 := by
        subst hW4
        exact ⟨HO3.out.stored 33 _ (by rw [show (33 : Nat) = 33 + 0 from rfl, msgCells_set m s HM.out.hash]; rfl) HM.out.hash, hbC.setCell (p := ⟨w.heap.size, 33, none⟩) (Nat.le_refl _) _⟩
      clear hW4 ef
      have HOt := Lib.hid (hot : MsgO w4 w.heap.size ({ m with piece := 1024 }) (s))
      have HRt := Lib.hid (⟨HM.out.hash, HM.out.ids.of_new hbt4, HM.out.bytes.of_new hbt4, HM.out.proof.of_new hbt4, HM.out.members.of_new hbt4⟩ : MsgR w4 ({ m with piece := 1024 }) (s))
      have hbt := Lib.hid (hbt4 : Below w.heap.size w w4)
      have hnr : rightB ({ m with piece := 1024 }) = false := more_piece1 (.inr (.inr (.inr (HK.out))))
      have hRi := fun w' (h : Below w.heap.size w w') (h2 : Below w4.heap.size w4 w') => Right_any _ _ w' (HRt.out.of_new h2)
      have hEn := fun w' (h2 : Below w4.heap.size w4 w') => Encode17_any _ _ w' (HRt.out.of_new h2)
      rw [hnr] at hRi
      rw [enc_not hnr] at hEn
      have HRi := Lib.hid (hRi _ hbt.out (Below.refl _ _))
      have HEn := Lib.hid hEn
      clear hnr hRi hEn
      go_upto_region 27 with (first
        | ((with_reducible refine wpList_plain (o := ⟨some 90, Op.load 29 _, _, _, _, _⟩) rfl fun K hK => ?_); (refine wp_load_msg (g := w.heap.size) rfl rfl HOt.out (hK _ _ ?_)))
        | (go_at_call 12; refine HRi.out.mono ?_; rintro e w5 ⟨rfl, hb5⟩; have HO5 := Lib.hid (HOt.out.of_new hb5)))
      have hb6 := below_next hbt.out hb5
      go_upto_region 28 with (first
        | ((with_reducible refine wpList_plain (o := ⟨some 93, Op.load 29 _, _, _, _, _⟩) rfl fun K hK => ?_); (refine wp_load_msg (g := w.heap.size) rfl rfl HO5.out (hK _ _ ?_)))
        | (go_at_call 10; refine (HEn.out _ hb5).mono ?_; rintro e w7 ⟨hb7, v7, rfl⟩))
      go_wp2
      go_ret
      exact ⟨rfl, below_next hb6 hb7⟩
    have u5 : (m.kind == 5) = false := beq_eq_false_iff_ne.2 k5
    have HK := Lib.hid (show ¬ (m.kind = 4 ∨ m.kind = 2 ∨ m.kind = 3 ∨ m.kind = 5) by omega)
    clear k4 k2 k3 k5
    clear h1 h2
    have ef := HO3.out.free 33
    go_upto_region 26 with (fail)
    generalize hW4 : World.setCell w3 _ _ = w4
    obtain ⟨hot, hbt4⟩ : MsgO w4 w.heap.size ({ m with piece := 1 }) (s) ∧ Below w.heap.size w w4 := by
      subst hW4
      exact ⟨HO3.out.stored 33 _ (by rw [show (33 : Nat) = 33 + 0 from rfl, msgCells_set m s HM.out.hash]; rfl) HM.out.hash, hbC.setCell (p := ⟨w.heap.size, 33, none⟩) (Nat.le_refl _) _⟩
    clear hW4 ef
    have HOt := Lib.hid (hot : MsgO w4 w.heap.size ({ m with piece := 1 }) (s))
    have HRt := Lib.hid (⟨HM.out.hash, HM.out.ids.of_new hbt4, HM.out.bytes.of_new hbt4, HM.out.proof.of_new hbt4, HM.out.members.of_new hbt4⟩ : MsgR w4 ({ m with piece := 1 }) (s))
    have hbt := Lib.hid (hbt4 : Below w.heap.size w w4)
    have hnr : rightB ({ m with piece := 1 }) = false := more_piece2 HK.out
    have hRi := fun w' (h : Below w.heap.size w w') (h2 : Below w4.heap.size w4 w') => Right_any _ _ w' (HRt.out.of_new h2)
    have hEn := fun w' (h2 : Below w4.heap.size w4 w') => Encode17_any _ _ w' (HRt.out.of_new h2)
    rw [hnr] at hRi
    rw [enc_not hnr] at hEn
    have HRi := Lib.hid (hRi _ hbt.out (Below.refl _ _))
    have HEn := Lib.hid hEn
    clear hnr hRi hEn
    go_upto_region 27 with (first
      | ((with_reducible refine wpList_plain (o := ⟨some 90, Op.load 29 _, _, _, _, _⟩) rfl fun K hK => ?_); (refine wp_load_msg (g := w.heap.size) rfl rfl HOt.out (hK _ _ ?_)))
      | (go_at_call 12; refine HRi.out.mono ?_; rintro e w5 ⟨rfl, hb5⟩; have HO5 := Lib.hid (HOt.out.of_new hb5)))
    have hb6 := below_next hbt.out hb5
    go_upto_region 28 with (first
      | ((with_reducible refine wpList_plain (o := ⟨some 93, Op.load 29 _, _, _, _, _⟩) rfl fun K hK => ?_); (refine wp_load_msg (g := w.heap.size) rfl rfl HO5.out (hK _ _ ?_)))
      | (go_at_call 10; refine (HEn.out _ hb5).mono ?_; rintro e w7 ⟨hb7, v7, rfl⟩))
    go_wp2
    go_ret
    exact ⟨rfl, below_next hb6 hb7⟩
  have t2 : (which == 2) = false := beq_eq_false_iff_ne.2 q2
  by_cases q3 : which = 3
  · have t3 : (which == 3) = true := beq_iff_eq.2 q3
    have e4 := HO3.out.ids
    clear q0 q1 q2 q3
    by_cases k7 : m.kind = 7
    · have u7 : (m.kind == 7) = true := beq_iff_eq.2 k7
      have HK := Lib.hid k7
      clear k7 h1 h2
      have ef := HO3.out.free 34
      go_upto_region 26 with (fail)
      generalize hW4 : World.alloc (World.setCell w3 _ _) _ = w4
      obtain ⟨hot, hbt4, hnew⟩ : MsgO w4 w.heap.size ({ m with ids := [0] }) ({ s with vi := (.slice (some ⟨w3.heap.size, 0, none⟩) 1 1) }) ∧ Below w.heap.size w w4 ∧ Ints w4 (.slice (some ⟨w3.heap.size, 0, none⟩) 1 1) [0] := by
        subst hW4
        refine ⟨(HO3.out.stored 34 _ (by rw [show (34 : Nat) = 33 + 1 from rfl, msgCells_set m s HM.out.hash]; rfl) HM.out.hash).of_new ((Below.refl _ _).alloc (Nat.le_refl _) _), (hbC.setCell (p := ⟨w.heap.size, 34, none⟩) (Nat.le_refl _) _).alloc (by simp; omega) _, ?_⟩
        have h := ints_laid (w3.setCell ⟨w.heap.size, 34, none⟩ (.slice (some ⟨w3.heap.size, 0, none⟩) 1 1)) [0] 3 (by unfold maxLen; simp)
        rw [World.size_setCell] at h
        exact h
      clear hW4 ef
      have HOt := Lib.hid (hot : MsgO w4 w.heap.size ({ m with ids := [0] }) ({ s with vi := (.slice (some ⟨w3.heap.size, 0, none⟩) 1 1) }))
      have HRt := Lib.hid (⟨HM.out.hash, hnew, HM.out.bytes.of_new hbt4, HM.out.proof.of_new hbt4, HM.out.members.of_new hbt4⟩ : MsgR w4 ({ m with ids := [0] }) ({ s with vi := (.slice (some ⟨w3.heap.size, 0, none⟩) 1 1) }))
      have hbt := Lib.hid (hbt4 : Below w.heap.size w w4)
      have hnr : rightB ({ m with ids := [0] }) = false := more_ids1 HK.out
      have hRi := fun w' (h : Below w.heap.size w w') (h2 : Below w4.heap.size w4 w') => Right_any _ _ w' (HRt.out.of_new h2)
      have hEn := fun w' (h2 : Below w4.heap.size w4 w') => Encode17_any _ _ w' (HRt.out.of_new h2)
      rw [hnr] at hRi
      rw [enc_not hnr] at hEn
      have HRi := Lib.hid (hRi _ hbt.out (Below.refl _ _))
      have HEn := Lib.hid hEn
      clear hnr hRi hEn
      go_upto_region 27 with (first
        | ((with_reducible refine wpList_plain (o := ⟨some 90, Op.load 29 _, _, _, _, _⟩) rfl fun K hK => ?_); (refine wp_load_msg (g := w.heap.size) rfl rfl HOt.out (hK _ _ ?_)))
        | (go_at_call 12; refine HRi.out.mono ?_; rintro e w5 ⟨rfl, hb5⟩; have HO5 := Lib.hid (HOt.out.of_new hb5)))
      have hb6 := below_next hbt.out hb5
      go_upto_region 28 with (first
        | ((with_reducible refine wpList_plain (o := ⟨some 93, Op.load 29 _, _, _, _, _⟩) rfl fun K hK => ?_); (refine wp_load_msg (g := w.heap.size) rfl rfl HO5.out (hK _ _ ?_)))
        | (go_at_call 10; refine (HEn.out _ hb5).mono ?_; rintro e w7 ⟨hb7, v7, rfl⟩))
      go_wp2
      go_ret
      exact ⟨rfl, below_next hb6 hb7⟩
    have u7 : (m.kind == 7) = false := beq_eq_false_iff_ne.2 k7
    have HK := Lib.hid k7
    clear k7 h1 h2
    have ef := HO3.out.free 34
    go_upto_region 26 with (fail)
    generalize hW4 : World.alloc (World.setCell w3 _ _) _ = w4
    obtain ⟨hot, hbt4, hnew⟩ : MsgO w4 w.heap.size ({ m with ids := [1] }) ({ s with vi := (.slice (some ⟨w3.heap.size, 0, none⟩) 1 1) }) ∧ Below w.heap.size w w4 ∧ Ints w4 (.slice (some ⟨w3.heap.size, 0, none⟩) 1 1) [1] := by
      subst hW4
      refine ⟨(HO3.out.stored 34 _ (by rw [show (34 : Nat) = 33 + 1 from rfl, msgCells_set m s HM.out.hash]; rfl) HM.out.hash).of_new ((Below.refl _ _).alloc (Nat.le_refl _) _), (hbC.setCell (p := ⟨w.heap.size, 34, none⟩) (Nat.le_refl _) _).alloc (by simp; omega) _, ?_⟩
      have h := ints_laid (w3.setCell ⟨w.heap.size, 34, none⟩ (.slice (some ⟨w3.heap.size, 0, none⟩) 1 1)) [1] 3 (by unfold maxLen; simp)
      rw [World.size_setCell] at h
      exact h
    clear hW4 ef
    have HOt := Lib.hid (hot : MsgO w4 w.heap.size ({ m with ids := [1] }) ({ s with vi := (.slice (some ⟨w3.heap.size, 0, none⟩) 1 1) }))
    have HRt := Lib.hid (⟨HM.out.hash, hnew, HM.out.bytes.of_new hbt4, HM.out.proof.of_new hbt4, HM.out.members.of_new hbt4⟩ : MsgR w4 ({ m with ids := [1] }) ({ s with vi := (.slice (some ⟨w3.heap.size, 0, none⟩) 1 1) }))
    have hbt := Lib.hid (hbt4 : Below w.heap.size w w4)
    have hnr : rightB ({ m with ids := [1] }) = false := more_ids2 HK.out
    have hRi := fun w' (h : Below w.heap.size w w') (h2 : Below w4.heap.size w4 w') => Right_any _ _ w' (HRt.out.of_new h2)
    have hEn := fun w' (h2 : Below w4.heap.size w4 w') => Encode17_any _ _ w' (HRt.out.of_new h2)
    rw [hnr] at hRi
    rw [enc_not hnr] at hEn
    have HRi := Lib.hid (hRi _ hbt.out (Below.refl _ _))
    have HEn := Lib.hid hEn
    clear hnr hRi hEn
    go_upto_region 27 with (first
      | ((with_reducible refine wpList_plain (o := ⟨some 90, Op.load 29 _, _, _, _, _⟩) rfl fun K hK => ?_); (refine wp_load_msg (g := w.heap.size) rfl rfl HOt.out (hK _ _ ?_)))
      | (go_at_call 12; refine HRi.out.mono ?_; rintro e w5 ⟨rfl, hb5⟩; have HO5 := Lib.hid (HOt.out.of_new hb5)))
    have hb6 := below_next hbt.out hb5
    go_upto_region 28 with (first
      | ((with_reducible refine wpList_plain (o := ⟨some 93, Op.load 29 _, _, _, _, _⟩) rfl fun K hK => ?_); (refine wp_load_msg (g := w.heap.size) rfl rfl HO5.out (hK _ _ ?_)))
      | (go_at_call 10; refine (HEn.out _ hb5).mono ?_; rintro e w7 ⟨hb7, v7, rfl⟩))
    go_wp2
    go_ret
    exact ⟨rfl, below_next hb6 hb7⟩
  have t3 : (which == 3) = false := beq_eq_false_iff_ne.2 q3
  by_cases q4 : which = 4
  · have t4 : (which == 4) = true := beq_iff_eq.2 q4
    have e7 := HO3.out.members
    clear q0 q1 q2 q3 q4
    by_cases k8 : m.kind = 8
    · have u8 : (m.kind == 8) = true := beq_iff_eq.2 k8
      have HK := Lib.hid k8
      clear k8
      clear h1 h2
      have ef := HO3.out.free 37
      go_upto_region 26 with (fail)
      generalize hW4 : World.setCell w3 _ _ = w4
      obtain ⟨hot, hbt4⟩ : MsgO w4 w.heap.size ({ m with members := [] }) ({ s with vm := .slice none 0 0 }) ∧ Below w.heap.size w w4 := by
        subst hW4
        exact ⟨HO3.out.stored 37 _ (by rw [show (37 : Nat) = 33 + 4 from rfl, msgCells_set m s HM.out.hash]; rfl) HM.out.hash, hbC.setCell (p := ⟨w.heap.size, 37, none⟩) (Nat.le_refl _) _⟩
      clear hW4 ef
      have HOt := Lib.hid (hot : MsgO w4 w.heap.size ({ m with members := [] }) ({ s with vm := .slice none 0 0 }))
      have HRt := Lib.hid (⟨HM.out.hash, HM.out.ids.of_new hbt4, HM.out.bytes.of_new hbt4, HM.out.proof.of_new hbt4, mems_nil _⟩ : MsgR w4 ({ m with members := [] }) ({ s with vm := .slice none 0 0 }))
      have hbt := Lib.hid (hbt4 : Below w.heap.size w w4)
      have hnr : rightB ({ m with members := [] }) = false := more_mem1 HK.out
      have hRi := fun w' (h : Below w.heap.size w w') (h2 : Below w4.heap.size w4 w') => Right_any _ _ w' (HRt.out.of_new h2)
      have hEn := fun w' (h2 : Below w4.heap.size w4 w') => Encode17_any _ _ w' (HRt.out.of_new h2)
      rw [hnr] at hRi
      rw [enc_not hnr] at hEn
      have HRi := Lib.hid (hRi _ hbt.out (Below.refl _ _))
      have HEn := Lib.hid hEn
      clear hnr hRi hEn
      go_upto_region 27 with (first
        | ((with_reducible refine wpList_plain (o := ⟨some 90, Op.load 29 _, _, _, _, _⟩) rfl fun K hK => ?_); (refine wp_load_msg (g := w.heap.size) rfl rfl HOt.out (hK _ _ ?_)))
        | (go_at_call 12; refine HRi.out.mono ?_; rintro e w5 ⟨rfl, hb5⟩; have HO5 := Lib.hid (HOt.out.of_new hb5)))
      have hb6 := below_next hbt.out hb5
      go_upto_region 28 with (first
        | ((with_reducible refine wpList_plain (o := ⟨some 93, Op.load 29 _, _, _, _, _⟩) rfl fun K hK => ?_); (refine wp_load_msg (g := w.heap.size) rfl rfl HO5.out (hK _ _ ?_)))
        | (go_at_call 10; refine (HEn.out _ hb5).mono ?_; rintro e w7 ⟨hb7, v7, rfl⟩))
      go_wp2
      go_ret
      exact ⟨rfl, below_next hb6 hb7⟩
    have u8 : (m.kind == 8) = false := beq_eq_false_iff_ne.2 k8
    have HK := Lib.hid k8
    clear k8 h1 h2
    have ef := HO3.out.free 37
    go_upto_region 26 with (fail)
    generalize hW4 : World.alloc (World.setCell w3 _ _) _ = w4
    obtain ⟨hot, hbt4, hnew⟩ : MsgO w4 w.heap.size ({ m with members := [⟨1, 0, 1, 0⟩] }) ({ s with vm := (.slice (some ⟨w3.heap.size, 0, none⟩) 1 1) }) ∧ Below w.heap.size w w4 ∧ Mems w4 (.slice (some ⟨w3.heap.size, 0, none⟩) 1 1) [⟨1, 0, 1, 0⟩] := by
      subst hW4
      refine ⟨(HO3.out.stored 37 _ (by rw [show (37 : Nat) = 33 + 4 from rfl, msgCells_set m s HM.out.hash]; rfl) HM.out.hash).of_new ((Below.refl _ _).alloc (Nat.le_refl _) _), (hbC.setCell (p := ⟨w.heap.size, 37, none⟩) (Nat.le_refl _) _).alloc (by simp; omega) _, ?_⟩
      have h : Mems ((w3.setCell ⟨w.heap.size, 37, none⟩ (.slice (some ⟨w3.heap.size, 0, none⟩) 1 1)).alloc (.cells #[.int .i64 1, .int .i64 0, .int .i64 1, .int .i64 0] 37)) (.slice (some ⟨(w3.setCell ⟨w.heap.size, 37, none⟩ (.slice (some ⟨w3.heap.size, 0, none⟩) 1 1)).heap.size, 0, none⟩) 1 1) [⟨1, 0, 1, 0⟩] := Row.of_owns (World.ownsRow_lit _ #[.int .i64 1, .int .i64 0, .int .i64 1, .int .i64 0] 1 (Nat.le_refl _) (by unfold maxLen; omega) rfl)
      rw [World.size_setCell] at h
      exact h
    clear hW4 ef
    have HOt := Lib.hid (hot : MsgO w4 w.heap.size ({ m with members := [⟨1, 0, 1, 0⟩] }) ({ s with vm := (.slice (some ⟨w3.heap.size, 0, none⟩) 1 1) }))
    have HRt := Lib.hid (⟨HM.out.hash, HM.out.ids.of_new hbt4, HM.out.bytes.of_new hbt4, HM.out.proof.of_new hbt4, hnew⟩ : MsgR w4 ({ m with members := [⟨1, 0, 1, 0⟩] }) ({ s with vm := (.slice (some ⟨w3.heap.size, 0, none⟩) 1 1) }))
    have hbt := Lib.hid (hbt4 : Below w.heap.size w w4)
    have hnr : rightB ({ m with members := [⟨1, 0, 1, 0⟩] }) = false := more_mem2 HK.out
    have hRi := fun w' (h : Below w.heap.size w w') (h2 : Below w4.heap.size w4 w') => Right_any _ _ w' (HRt.out.of_new h2)
    have hEn := fun w' (h2 : Below w4.heap.size w4 w') => Encode17_any _ _ w' (HRt.out.of_new h2)
    rw [hnr] at hRi
    rw [enc_not hnr] at hEn
    have HRi := Lib.hid (hRi _ hbt.out (Below.refl _ _))
    have HEn := Lib.hid hEn
    clear hnr hRi hEn
    go_upto_region 27 with (first
      | ((with_reducible refine wpList_plain (o := ⟨some 90, Op.load 29 _, _, _, _, _⟩) rfl fun K hK => ?_); (refine wp_load_msg (g := w.heap.size) rfl rfl HOt.out (hK _ _ ?_)))
      | (go_at_call 12; refine HRi.out.mono ?_; rintro e w5 ⟨rfl, hb5⟩; have HO5 := Lib.hid (HOt.out.of_new hb5)))
    have hb6 := below_next hbt.out hb5
    go_upto_region 28 with (first
      | ((with_reducible refine wpList_plain (o := ⟨some 93, Op.load 29 _, _, _, _, _⟩) rfl fun K hK => ?_); (refine wp_load_msg (g := w.heap.size) rfl rfl HO5.out (hK _ _ ?_)))
      | (go_at_call 10; refine (HEn.out _ hb5).mono ?_; rintro e w7 ⟨hb7, v7, rfl⟩))
    go_wp2
    go_ret
    exact ⟨rfl, below_next hb6 hb7⟩
  have t4 : (which == 4) = false := beq_eq_false_iff_ne.2 q4
  have e5 := HO3.out.bytes
  clear q0 q1 q2 q3 q4
  by_cases k1 : m.kind = 1
  · have u1 : (m.kind == 1) = true := beq_iff_eq.2 k1
    have HK := Lib.hid k1
    clear k1
    clear h1 h2
    have ef := HO3.out.free 35
    go_upto_region 26 with (fail)
    generalize hW4 : World.setCell w3 _ _ = w4
    obtain ⟨hot, hbt4⟩ : MsgO w4 w.heap.size ({ m with bytes := [] }) ({ s with vb := .slice none 0 0 }) ∧ Below w.heap.size w w4 := by
      subst hW4
      exact ⟨HO3.out.stored 35 _ (by rw [show (35 : Nat) = 33 + 2 from rfl, msgCells_set m s HM.out.hash]; rfl) HM.out.hash, hbC.setCell (p := ⟨w.heap.size, 35, none⟩) (Nat.le_refl _) _⟩
    clear hW4 ef
    have HOt := Lib.hid (hot : MsgO w4 w.heap.size ({ m with bytes := [] }) ({ s with vb := .slice none 0 0 }))
    have HRt := Lib.hid (⟨HM.out.hash, HM.out.ids.of_new hbt4, Bytes.of_nil, HM.out.proof.of_new hbt4, HM.out.members.of_new hbt4⟩ : MsgR w4 ({ m with bytes := [] }) ({ s with vb := .slice none 0 0 }))
    have hbt := Lib.hid (hbt4 : Below w.heap.size w w4)
    have hnr : rightB ({ m with bytes := [] }) = false := more_bytes1 (.inl HK.out)
    have hRi := fun w' (h : Below w.heap.size w w') (h2 : Below w4.heap.size w4 w') => Right_any _ _ w' (HRt.out.of_new h2)
    have hEn := fun w' (h2 : Below w4.heap.size w4 w') => Encode17_any _ _ w' (HRt.out.of_new h2)
    rw [hnr] at hRi
    rw [enc_not hnr] at hEn
    have HRi := Lib.hid (hRi _ hbt.out (Below.refl _ _))
    have HEn := Lib.hid hEn
    clear hnr hRi hEn
    go_upto_region 27 with (first
      | ((with_reducible refine wpList_plain (o := ⟨some 90, Op.load 29 _, _, _, _, _⟩) rfl fun K hK => ?_); (refine wp_load_msg (g := w.heap.size) rfl rfl HOt.out (hK _ _ ?_)))
      | (go_at_call 12; refine HRi.out.mono ?_; rintro e w5 ⟨rfl, hb5⟩; have HO5 := Lib.hid (HOt.out.of_new hb5)))
    have hb6 := below_next hbt.out hb5
    go_upto_region 28 with (first
      | ((with_reducible refine wpList_plain (o := ⟨some 93, Op.load 29 _, _, _, _, _⟩) rfl fun K hK => ?_); (refine wp_load_msg (g := w.heap.size) rfl rfl HO5.out (hK _ _ ?_)))
      | (go_at_call 10; refine (HEn.out _ hb5).mono ?_; rintro e w7 ⟨hb7, v7, rfl⟩))
    go_wp2
    go_ret
    exact ⟨rfl, below_next hb6 hb7⟩
  have u1 : (m.kind == 1) = false := beq_eq_false_iff_ne.2 k1
  by_cases k4 : m.kind = 4
  · have u4 : (m.kind == 4) = true := beq_iff_eq.2 k4
    have HK := Lib.hid k4
    clear k4
    clear h1 h2
    have ef := HO3.out.free 35
    go_upto_region 26 with (fail)
    generalize hW4 : World.setCell w3 _ _ = w4
    obtain ⟨hot, hbt4⟩ : MsgO w4 w.heap.size ({ m with bytes := [] }) ({ s with vb := .slice none 0 0 }) ∧ Below w.heap.size w w4 := by
      subst hW4
      exact ⟨HO3.out.stored 35 _ (by rw [show (35 : Nat) = 33 + 2 from rfl, msgCells_set m s HM.out.hash]; rfl) HM.out.hash, hbC.setCell (p := ⟨w.heap.size, 35, none⟩) (Nat.le_refl _) _⟩
    clear hW4 ef
    have HOt := Lib.hid (hot : MsgO w4 w.heap.size ({ m with bytes := [] }) ({ s with vb := .slice none 0 0 }))
    have HRt := Lib.hid (⟨HM.out.hash, HM.out.ids.of_new hbt4, Bytes.of_nil, HM.out.proof.of_new hbt4, HM.out.members.of_new hbt4⟩ : MsgR w4 ({ m with bytes := [] }) ({ s with vb := .slice none 0 0 }))
    have hbt := Lib.hid (hbt4 : Below w.heap.size w w4)
    have hnr : rightB ({ m with bytes := [] }) = false := more_bytes1 (.inr (.inl HK.out))
    have hRi := fun w' (h : Below w.heap.size w w') (h2 : Below w4.heap.size w4 w') => Right_any _ _ w' (HRt.out.of_new h2)
    have hEn := fun w' (h2 : Below w4.heap.size w4 w') => Encode17_any _ _ w' (HRt.out.of_new h2)
    rw [hnr] at hRi
    rw [enc_not hnr] at hEn
    have HRi := Lib.hid (hRi _ hbt.out (Below.refl _ _))
    have HEn := Lib.hid hEn
    clear hnr hRi hEn
    go_upto_region 27 with (first
      | ((with_reducible refine wpList_plain (o := ⟨some 90, Op.load 29 _, _, _, _, _⟩) rfl fun K hK => ?_); (refine wp_load_msg (g := w.heap.size) rfl rfl HOt.out (hK _ _ ?_)))
      | (go_at_call 12; refine HRi.out.mono ?_; rintro e w5 ⟨rfl, hb5⟩; have HO5 := Lib.hid (HOt.out.of_new hb5)))
    have hb6 := below_next hbt.out hb5
    go_upto_region 28 with (first
      | ((with_reducible refine wpList_plain (o := ⟨some 93, Op.load 29 _, _, _, _, _⟩) rfl fun K hK => ?_); (refine wp_load_msg (g := w.heap.size) rfl rfl HO5.out (hK _ _ ?_)))
      | (go_at_call 10; refine (HEn.out _ hb5).mono ?_; rintro e w7 ⟨hb7, v7, rfl⟩))
    go_wp2
    go_ret
    exact ⟨rfl, below_next hb6 hb7⟩
  have u4 : (m.kind == 4) = false := beq_eq_false_iff_ne.2 k4
  by_cases k10 : m.kind = 10
  · have u10 : (m.kind == 10) = true := beq_iff_eq.2 k10
    have HK := Lib.hid k10
    clear k10
    clear h1 h2
    have ef := HO3.out.free 35
    go_upto_region 26 with (fail)
    generalize hW4 : World.setCell w3 _ _ = w4
    obtain ⟨hot, hbt4⟩ : MsgO w4 w.heap.size ({ m with bytes := [] }) ({ s with vb := .slice none 0 0 }) ∧ Below w.heap.size w w4 := by
      subst hW4
      exact ⟨HO3.out.stored 35 _ (by rw [show (35 : Nat) = 33 + 2 from rfl, msgCells_set m s HM.out.hash]; rfl) HM.out.hash, hbC.setCell (p := ⟨w.heap.size, 35, none⟩) (Nat.le_refl _) _⟩
    clear hW4 ef
    have HOt := Lib.hid (hot : MsgO w4 w.heap.size ({ m with bytes := [] }) ({ s with vb := .slice none 0 0 }))
    have HRt := Lib.hid (⟨HM.out.hash, HM.out.ids.of_new hbt4, Bytes.of_nil, HM.out.proof.of_new hbt4, HM.out.members.of_new hbt4⟩ : MsgR w4 ({ m with bytes := [] }) ({ s with vb := .slice none 0 0 }))
    have hbt := Lib.hid (hbt4 : Below w.heap.size w w4)
    have hnr : rightB ({ m with bytes := [] }) = false := more_bytes1 (.inr (.inr (HK.out)))
    have hRi := fun w' (h : Below w.heap.size w w') (h2 : Below w4.heap.size w4 w') => Right_any _ _ w' (HRt.out.of_new h2)
    have hEn := fun w' (h2 : Below w4.heap.size w4 w') => Encode17_any _ _ w' (HRt.out.of_new h2)
    rw [hnr] at hRi
    rw [enc_not hnr] at hEn
    have HRi := Lib.hid (hRi _ hbt.out (Below.refl _ _))
    have HEn := Lib.hid hEn
    clear hnr hRi hEn
    go_upto_region 27 with (first
      | ((with_reducible refine wpList_plain (o := ⟨some 90, Op.load 29 _, _, _, _, _⟩) rfl fun K hK => ?_); (refine wp_load_msg (g := w.heap.size) rfl rfl HOt.out (hK _ _ ?_)))
      | (go_at_call 12; refine HRi.out.mono ?_; rintro e w5 ⟨rfl, hb5⟩; have HO5 := Lib.hid (HOt.out.of_new hb5)))
    have hb6 := below_next hbt.out hb5
    go_upto_region 28 with (first
      | ((with_reducible refine wpList_plain (o := ⟨some 93, Op.load 29 _, _, _, _, _⟩) rfl fun K hK => ?_); (refine wp_load_msg (g := w.heap.size) rfl rfl HO5.out (hK _ _ ?_)))
      | (go_at_call 10; refine (HEn.out _ hb5).mono ?_; rintro e w7 ⟨hb7, v7, rfl⟩))
    go_wp2
    go_ret
    exact ⟨rfl, below_next hb6 hb7⟩
  have u10 : (m.kind == 10) = false := beq_eq_false_iff_ne.2 k10
  have HK := Lib.hid (show ¬ (m.kind = 1 ∨ m.kind = 4 ∨ m.kind = 10) by omega)
  clear k1 k4 k10 h1 h2
  have ef := HO3.out.free 35
  go_upto_region 26 with (fail)
  generalize hW4 : World.alloc (World.setCell w3 _ _) _ = w4
  obtain ⟨hot, hbt4, hnew⟩ : MsgO w4 w.heap.size ({ m with bytes := [1] }) ({ s with vb := (.slice (some ⟨w3.heap.size, 0, none⟩) 1 1) }) ∧ Below w.heap.size w w4 ∧ Bytes w4 (.slice (some ⟨w3.heap.size, 0, none⟩) 1 1) [1] := by
    subst hW4
    refine ⟨(HO3.out.stored 35 _ (by rw [show (35 : Nat) = 33 + 2 from rfl, msgCells_set m s HM.out.hash]; rfl) HM.out.hash).of_new ((Below.refl _ _).alloc (Nat.le_refl _) _), (hbC.setCell (p := ⟨w.heap.size, 35, none⟩) (Nat.le_refl _) _).alloc (by simp; omega) _, ?_⟩
    have h := Bytes.one (w3.setCell ⟨w.heap.size, 35, none⟩ (.slice (some ⟨w3.heap.size, 0, none⟩) 1 1)) 1 5
    rw [World.size_setCell] at h
    exact h
  clear hW4 ef
  have HOt := Lib.hid (hot : MsgO w4 w.heap.size ({ m with bytes := [1] }) ({ s with vb := (.slice (some ⟨w3.heap.size, 0, none⟩) 1 1) }))
  have HRt := Lib.hid (⟨HM.out.hash, HM.out.ids.of_new hbt4, hnew, HM.out.proof.of_new hbt4, HM.out.members.of_new hbt4⟩ : MsgR w4 ({ m with bytes := [1] }) ({ s with vb := (.slice (some ⟨w3.heap.size, 0, none⟩) 1 1) }))
  have hbt := Lib.hid (hbt4 : Below w.heap.size w w4)
  have hnr : rightB ({ m with bytes := [1] }) = false := more_bytes2 HK.out
  have hRi := fun w' (h : Below w.heap.size w w') (h2 : Below w4.heap.size w4 w') => Right_any _ _ w' (HRt.out.of_new h2)
  have hEn := fun w' (h2 : Below w4.heap.size w4 w') => Encode17_any _ _ w' (HRt.out.of_new h2)
  rw [hnr] at hRi
  rw [enc_not hnr] at hEn
  have HRi := Lib.hid (hRi _ hbt.out (Below.refl _ _))
  have HEn := Lib.hid hEn
  clear hnr hRi hEn
  go_upto_region 27 with (first
    | ((with_reducible refine wpList_plain (o := ⟨some 90, Op.load 29 _, _, _, _, _⟩) rfl fun K hK => ?_); (refine wp_load_msg (g := w.heap.size) rfl rfl HOt.out (hK _ _ ?_)))
    | (go_at_call 12; refine HRi.out.mono ?_; rintro e w5 ⟨rfl, hb5⟩; have HO5 := Lib.hid (HOt.out.of_new hb5)))
  have hb6 := below_next hbt.out hb5
  go_upto_region 28 with (first
    | ((with_reducible refine wpList_plain (o := ⟨some 93, Op.load 29 _, _, _, _, _⟩) rfl fun K hK => ?_); (refine wp_load_msg (g := w.heap.size) rfl rfl HO5.out (hK _ _ ?_)))
    | (go_at_call 10; refine (HEn.out _ hb5).mono ?_; rintro e w7 ⟨hb7, v7, rfl⟩))
  go_wp2
  go_ret
  exact ⟨rfl, below_next hb6 hb7⟩

end Go.Proofs.Ytnomekfemadpeaa
