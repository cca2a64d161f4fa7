/- The walks of wire's bare and fits: whether a message has nothing of an item, whether what it has may be; of the document's Right of a member. No condition. -/
import Derived.Test.YtnomekfemadpeaaWrFits
import Derived.Deep.DeepCutAuto
import Derived.Deep.Cut
import Derived.Deep.QuietTactic
import Derived.BigQuiet
namespace Go.Proofs.Ytnomekfemadpeaa
open Go.RowKit
set_option linter.unusedVariables false
set_option linter.unusedSimpArgs false
set_option maxRecDepth 100000

/-- A message boxed at a call's head. -/
theorem msg_boxed (w : World) {m : MsgL} {s : MsgS} (h : m.hash.length = 32) : ∃ W, w.alloc (.cells (msgCells m s).toArray 29) = W ∧ MsgO W w.heap.size m s ∧ Below w.heap.size w W :=
  ⟨_, rfl, msg_alloc w h, (Below.refl _ w).alloc (Nat.le_refl _) _⟩
theorem eqz (n : Nat) : ((n : Int) == 0) = decide (n = 0) := by
  rw [Bool.eq_iff_iff]; simp

set_option maxHeartbeats 3200000 in
theorem bare_any (m : MsgL) (s : MsgS) (i : Int) (w : World) (hm : MsgR w m s) (h1 : 1 ≤ i) (h2 : i ≤ 8) :
    Calls Try.prog 25 #[MsgV m s, .int .i64 i] w fun e w' => e = .returned (.bool (bareB m i)) ∧ Below w.heap.size w w' := by
  obtain ⟨W, hW, ho, hb⟩ := msg_boxed w (s := s) hm.hash
  rw [show MsgV m s = .agg (msgCells m s).toArray from rfl]
  obtain ⟨ai, ci, hi⟩ := hm.ids.len
  obtain ⟨ab, cb, hby⟩ := hm.bytes.len
  obtain ⟨ap, cp, hp⟩ := hm.proof.len
  obtain ⟨am, cm, hme⟩ := hm.members.len
  have e2 := ho.hash
  have e3 := ho.piece
  have e4 := ho.ids
  have e5 := ho.bytes
  have e6 := ho.proof
  have e7 := ho.members
  have e8 := ho.seed
  rw [hi] at e4
  rw [hby] at e5
  rw [hp] at e6
  rw [hme] at e7
  have h32 := hm.hash
  have hgd := guard_dig
  have heq := run_eql_dig m.hash zero32 h32 rfl
  rw [show (List.map B8 zero32).toArray = #[.int .u8 0, .int .u8 0, .int .u8 0, .int .u8 0, .int .u8 0, .int .u8 0, .int .u8 0, .int .u8 0, .int .u8 0, .int .u8 0, .int .u8 0, .int .u8 0, .int .u8 0, .int .u8 0, .int .u8 0, .int .u8 0, .int .u8 0, .int .u8 0, .int .u8 0, .int .u8 0, .int .u8 0, .int .u8 0, .int .u8 0, .int .u8 0, .int .u8 0, .int .u8 0, .int .u8 0, .int .u8 0, .int .u8 0, .int .u8 0, .int .u8 0, .int .u8 0] from rfl] at heq
  have HW := Lib.hid hW
  clear hW hm hi hby hp hme h32 ho
  rcases (show i = 1 ∨ i = 2 ∨ i = 3 ∨ i = 4 ∨ i = 5 ∨ i = 6 ∨ i = 7 ∨ i = 8 by omega) with rfl | rfl | rfl | rfl | rfl | rfl | rfl | rfl
  · clear e2 e3 e4 e5 e6 e7 e8 heq
    go_enter Try.func25, Try.ntmps25
    go_wp2
    go_ret
    rw [HW.out]
    exact ⟨rfl, hb⟩
  · clear e3 e4 e5 e6 e7 e8
    rw [show bareB m 2 = decide (m.hash = zero32) from rfl]
    generalize decide (m.hash = zero32) = z at *
    generalize m.hash = h at *
    go_enter Try.func25, Try.ntmps25
    go_upto_region 5 with (fail)
    rw [HW.out]
    go_wp2_with (first | ((with_reducible apply wpList_load_at (ty := 23) (x := .tmp _)); rfl; rfl; rfl; assumption))
    go_ret
    exact ⟨rfl, hb⟩
  · clear e2 e4 e5 e6 e7 e8 heq
    rw [show bareB m 3 = decide (m.piece = 0) from rfl]
    have hd : decide (m.piece = 0) = (m.piece == 0) := rfl
    rw [hd]
    generalize m.piece = n at *
    clear hd
    go_enter Try.func25, Try.ntmps25
    go_upto_region 7 with (fail)
    rw [HW.out]
    go_wp2
    go_ret
    exact ⟨rfl, hb⟩
  · clear e2 e3 e5 e6 e7 e8 heq
    rw [show bareB m 4 = decide (m.ids.length = 0) from rfl, ← eqz]
    generalize m.ids.length = n at *
    go_enter Try.func25, Try.ntmps25
    go_upto_region 9 with (fail)
    rw [HW.out]
    go_wp2
    go_ret
    exact ⟨rfl, hb⟩
  · clear e2 e3 e4 e6 e7 e8 heq
    rw [show bareB m 5 = decide (m.bytes.length = 0) from rfl, ← eqz]
    generalize m.bytes.length = n at *
    go_enter Try.func25, Try.ntmps25
    go_upto_region 11 with (fail)
    rw [HW.out]
    go_wp2
    go_ret
    exact ⟨rfl, hb⟩
  · clear e2 e3 e4 e5 e7 e8 heq
    rw [show bareB m 6 = decide (m.proof.length = 0) from rfl, ← eqz]
    generalize m.proof.length = n at *
    go_enter Try.func25, Try.ntmps25
    go_upto_region 13 with (fail)
    rw [HW.out]
    go_wp2
    go_ret
    exact ⟨rfl, hb⟩
  · clear e2 e3 e4 e5 e6 e8 heq
    rw [show bareB m 7 = decide (m.members.length = 0) from rfl, ← eqz]
    generalize m.members.length = n at *
    go_enter Try.func25, Try.ntmps25
    go_upto_region 15 with (fail)
    rw [HW.out]
    go_wp2
    go_ret
    exact ⟨rfl, hb⟩
  · clear e2 e3 e4 e5 e6 e7 heq
    rw [show bareB m 8 = !m.seed from rfl]
    generalize m.seed = n at *
    go_enter Try.func25, Try.ntmps25
    go_upto_region 16 with (fail)
    rw [HW.out]
    go_wp2
    go_ret
    exact ⟨rfl, hb⟩

set_option maxHeartbeats 3200000 in
theorem fits_any (m : MsgL) (s : MsgS) (i : Int) (w : World) (hm : MsgR w m s) (h1 : 1 ≤ i) (h2 : i ≤ 8) :
    Calls Try.prog 24 #[MsgV m s, .int .i64 i] w fun e w' => e = .returned (.bool (fitsB m i)) ∧ Below w.heap.size w w' := by
  obtain ⟨W, hW, ho, hb⟩ := msg_boxed w (s := s) hm.hash
  rw [show MsgV m s = .agg (msgCells m s).toArray from rfl]
  have hmW := hm.of_new hb
  have hi := hmW.ids
  have hme := hmW.members
  obtain ⟨ai, ci, hvi⟩ := hi.len
  obtain ⟨ab, cb, hvb⟩ := hm.bytes.len
  obtain ⟨ap, cp, hvp⟩ := hm.proof.len
  obtain ⟨am, cm, hvm⟩ := hme.len
  have e0 := ho.kind
  have e3 := ho.piece
  have e4 := ho.ids
  have e5 := ho.bytes
  have e6 := ho.proof
  have e7 := ho.members
  have hls := ho.lt
  rw [hvi] at e4 hi
  rw [hvb] at e5
  rw [hvp] at e6
  rw [hvm] at e7 hme
  have HW := Lib.hid hW
  have HI := Lib.hid hi
  have HM := Lib.hid hme
  clear hW hm hmW hvi hvb hvp hvm ho hi hme
  have hbF : Below w.heap.size w (W.alloc (.cells #[.func (.func 41) #[] #[]] 53)) := hb.alloc hb.size _
  have hbG : Below W.heap.size W (W.alloc (.cells #[.func (.func 41) #[] #[]] 53)) := (Below.refl _ _).alloc (Nat.le_refl _) _
  rcases (show i = 3 ∨ i = 4 ∨ i = 5 ∨ i = 6 ∨ i = 7 ∨ (i = 1 ∨ i = 2 ∨ i = 8) by omega) with rfl | rfl | rfl | rfl | rfl | h8
  · rw [show fitsB m 3 = withinB m.piece 0 1023 from rfl]
    have hI := fun w' => within_any m.piece 0 1023 w'
    generalize withinB m.piece 0 1023 = B at *
    clear e0 e4 e5 e6 e7
    generalize m.piece = n at *
    go_enter Try.func24, Try.ntmps24
    go_upto_region 1 with (fail)
    rw [HW.out]
    go_wp2_with (first | (go_at_call 42; refine (hI _).mono ?_; rintro e w2 ⟨rfl, rfl⟩))
    go_ret
    exact ⟨rfl, hbF⟩
  · rw [show fitsB m 4 = (decide (m.ids.length ≤ 64) && m.ids.all idB) from rfl]
    have hC := fun w' (h : Below W.heap.size W w') => ContainsFunc_any _ m.ids w' (HI.out.of_new h)
    generalize m.ids.all idB = B at *
    generalize m.ids.length = n at *
    clear e0 e3 e5 e6 e7
    by_cases hn : n ≤ 64
    · rw [decide_eq_true hn]
      have t : (n : Int) ≤ 64 := by omega
      go_enter Try.func24, Try.ntmps24
      go_upto_region 1 with (fail)
      rw [HW.out]
      go_wp2_with (first | (go_at_call 44; refine (hC _ hbG).mono ?_; rintro e w2 ⟨rfl, hb2⟩))
      go_ret
      exact ⟨ret_bool (by simp), below_next hbF hb2⟩
    · rw [decide_eq_false hn]
      have t : ¬ (n : Int) ≤ 64 := by omega
      clear hC
      go_enter Try.func24, Try.ntmps24
      go_upto_region 1 with (fail)
      rw [HW.out]
      go_wp2
      go_ret
      exact ⟨rfl, hbF⟩
  · rw [show fitsB m 5 = withinB m.bytes.length 1 (mostL m.kind) from rfl]
    have hI := fun w' => within_any m.bytes.length 1 (mostL m.kind) w'
    have hM := fun w' => most_any m.kind w'
    generalize withinB m.bytes.length 1 (mostL m.kind) = B at *
    generalize mostL m.kind = q at *
    generalize m.bytes.length = n at *
    generalize m.kind = k at *
    clear e3 e4 e6 e7
    go_enter Try.func24, Try.ntmps24
    go_upto_region 1 with (fail)
    rw [HW.out]
    go_upto_region 9 with (fail)
    generalize hWF : W.alloc _ = WF at *
    have f0 : ∀ w', Grew WF w' → w'.cell? ⟨w.heap.size, 0, none⟩ = some (.int .i64 k) := fun w' hw' => hw'.cell ((hbG.cell (p := ⟨w.heap.size, 0, none⟩) hls).trans e0)
    have f5 : ∀ w', Grew WF w' → w'.cell? ⟨w.heap.size, 35, none⟩ = some (.slice ab n cb) := fun w' hw' => hw'.cell ((hbG.cell (p := ⟨w.heap.size, 35, none⟩) hls).trans e5)
    clear e0 e5 hWF
    refine wp_region_grew (by kernel_rfl) (by kernel_rfl) ?_
    repeat (first
      | (go_big_quiet_want; apply quiet_call (f := 42); (intro w' hw'; go_simp; first | done | rfl); (intro w' hw'; exact Grew.same hw' (hI w')); go_simp; go_big_quiet_on)
      | (go_big_quiet_want; apply quiet_call (f := 45); (intro w' hw'; go_simp; first | done | rfl); (intro w' hw'; exact Grew.same hw' (hM w')); go_simp; go_big_quiet_on)
      | (go_big_quiet_want; (with_reducible apply quiet_load_at (ty := 23) (x := .tmp _)); rfl; rfl; assumption; go_simp; go_big_quiet_on)
      | (go_big_quiet_want; apply quiet_val; (intro w' hw'; go_simp; first | done | rfl); go_simp; go_big_quiet_on)
      | (go_big_quiet_skip))
    refine wpQuiet_nil ?_
    intro w9 hw9
    go_wp2
    go_ret
    exact ⟨rfl, below_next hbF hw9⟩
  · rw [show fitsB m 6 = decide (m.proof.length ≤ 10) from rfl]
    generalize m.proof.length = n at *
    have hd : decide (n ≤ 10) = decide ((n : Int) ≤ 10) := by rw [Bool.eq_iff_iff]; simp; omega
    rw [hd]
    clear e0 e3 e4 e5 e7 hd
    go_enter Try.func24, Try.ntmps24
    go_upto_region 1 with (fail)
    rw [HW.out]
    go_wp2
    go_ret
    exact ⟨rfl, hbF⟩
  · rw [show fitsB m 7 = (withinB m.members.length 1 65 && m.members.all memB0) from rfl]
    have hI := fun w' => within_any m.members.length 1 65 w'
    have hC := fun w' (h : Below W.heap.size W w') g hg => ContainsFuncM_any _ m.members g w' (HM.out.of_new h) hg
    generalize m.members.all memB0 = B at *
    generalize withinB m.members.length 1 65 = A at *
    generalize m.members.length = n at *
    clear e0 e3 e4 e5 e6
    cases A
    · clear hC
      go_enter Try.func24, Try.ntmps24
      go_upto_region 1 with (fail)
      rw [HW.out]
      go_wp2_with (first | (go_at_call 42; refine (hI _).mono ?_; rintro e w2 ⟨rfl, rfl⟩))
      go_ret
      exact ⟨rfl, hbF⟩
    · go_enter Try.func24, Try.ntmps24
      go_upto_region 1 with (fail)
      rw [HW.out]
      go_wp2_with (first | (go_at_call 42; refine (hI _).mono ?_; rintro e w2 ⟨rfl, rfl⟩) | (go_at_call 46; refine (hC _ hbG W.heap.size (by go_simp)).mono ?_; rintro e w3 ⟨rfl, hb3⟩))
      go_ret
      exact ⟨ret_bool (by simp), below_next hbF hb3⟩
  · have e : fitsB m i = true := by unfold fitsB; rcases h8 with rfl | rfl | rfl <;> rfl
    rw [e]
    clear e0 e3 e4 e5 e6 e7 e
    rcases h8 with rfl | rfl | rfl
    all_goals
      go_enter Try.func24, Try.ntmps24
      go_upto_region 1 with (fail)
      rw [HW.out]
      go_wp2
      go_ret
      exact ⟨rfl, hbF⟩

end Go.Proofs.Ytnomekfemadpeaa
