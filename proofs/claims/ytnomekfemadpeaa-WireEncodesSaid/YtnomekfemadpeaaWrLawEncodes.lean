/- The walk of the law WireEncodes: it answers true. No condition. -/
import Derived.Test.YtnomekfemadpeaaWrRefEnc
import Derived.Test.YtnomekfemadpeaaWrLawFew
namespace Go.Proofs.Ytnomekfemadpeaa
open Go.RowKit
set_option linter.unusedVariables false
set_option linter.unusedSimpArgs false
set_option maxRecDepth 100000

set_option maxHeartbeats 3200000 in
theorem WireEncodes_walk (m : MsgL) (s : MsgS) (w : World) (hm : MsgR w m s) :
    Calls Try.prog 3 #[MsgV m s] w fun e w' => e = .returned (.bool true) ∧ Below w.heap.size w w' := by
  obtain ⟨W, hW, ho, hb⟩ := msg_boxed w (s := s) hm.hash
  rw [show MsgV m s = .agg (msgCells m s).toArray from rfl]
  have HM := Lib.hid hm
  have HO := Lib.hid ho
  have HW := Lib.hid hW
  clear hW hm ho
  go_enter Try.func3, Try.ntmps3
  go_upto_region 1 with (fail)
  rw [HW.out]
  go_wp2_with fail
  refine (awake17_any W).mono ?_
  rintro e w1 ⟨rfl, hb1⟩
  have hbA := below_next hb hb1
  have HO1 := Lib.hid (HO.out.of_new hb1)
  clear hb1
  go_upto_region 3 with (first
    | ((with_reducible refine wpList_plain (o := ⟨some 10, Op.load 29 _, _, _, _, _⟩) rfl fun K hK => ?_); (refine wp_load_msg (g := w.heap.size) (m := m) (s := s) rfl rfl HO1.out (hK _ _ ?_)))
    | (go_at_call 9; refine (few17_any m s _ (HM.out.of_new hbA)).mono ?_; rintro e w2 ⟨rfl, hb2⟩))
  have hbB := below_next hbA hb2
  have HO2 := Lib.hid (HO1.out.of_new hb2)
  clear hb2
  rcases hf : fewB m with _ | _
  · go_wp2
    go_ret
    exact ⟨rfl, hbB⟩
  clear hf
  have hE := Encode17_any m s w2 (HM.out.of_new hbB)
  have hRE := fun w' (h : Below w.heap.size w w') => REncode17_any m s w' (HM.out.of_new h)
  have hR := fun w' (h : Below w.heap.size w w') => Right_any m s w' (HM.out.of_new h)
  have hRR := fun w' (h : Below w.heap.size w w') => RRight_any m s w' (HM.out.of_new h)
  rw [rrightB_eq] at hRR
  generalize encM m = c at *
  generalize rightB m = R at *
  have HRE := Lib.hid hRE
  have HR := Lib.hid hR
  have HRR := Lib.hid hRR
  have e0 : (errE c == errE c) = true := by simp
  have e2 : (R == R) = true := by simp
  have e3 := str_same (c.getD [])
  clear hRE hR hRR
  go_upto_region 6 with (first
    | ((with_reducible refine wpList_plain (o := ⟨some 20, Op.load 29 _, _, _, _, _⟩) rfl fun K hK => ?_); (refine wp_load_msg (g := w.heap.size) (m := m) (s := s) rfl rfl HO2.out (hK _ _ ?_)))
    | (go_at_call 10; refine hE.mono ?_; intro e w3 hp; obtain ⟨v3, rfl, hv3, hb3⟩ := hp.both; obtain ⟨a3, c3, hv⟩ := hv3.len; subst hv; have HV3 := Lib.hid hv3; clear hp hv3))
  have hbC := below_next hbB hb3
  have HO3 := Lib.hid (HO2.out.of_new hb3)
  clear hE hb3
  go_upto_region 7 with (first
    | ((with_reducible refine wpList_plain (o := ⟨some 25, Op.load 29 _, _, _, _, _⟩) rfl fun K hK => ?_); (refine wp_load_msg (g := w.heap.size) (m := m) (s := s) rfl rfl HO3.out (hK _ _ ?_)))
    | (go_at_call 11; refine (HRE.out _ hbC).mono ?_; intro e w4 hp; obtain ⟨v4, rfl, hv4, hb4⟩ := hp.both; obtain ⟨a4, c4, hv⟩ := hv4.len; subst hv; have HV4 := Lib.hid hv4; clear hp hv4))
  have hbD := below_next hbC hb4
  have HO4 := Lib.hid (HO3.out.of_new hb4)
  have HX4 := Lib.hid (HV3.out.of_new hb4)
  have s1 := fun w' (hw' : Grew w4 w') => (hw'.bytes HX4.out).string (P := Try.prog) (t := 25) (d := 9) Try.underlying25 Try.underlying5 Try.underlying9
  have s2 := fun w' (hw' : Grew w4 w') => (hw'.bytes HV4.out).string (P := Try.prog) (t := 25) (d := 9) Try.underlying25 Try.underlying5 Try.underlying9
  have hD := Lib.hid hbD
  clear hb4
  refine wp_region_grew (by kernel_rfl) (by kernel_rfl) ?_
  repeat (first
    | (go_big_quiet_want; (with_reducible apply quiet_load_msg (p := .tmp 1)); rfl; rfl; exact HO4.out; go_simp; go_big_quiet_on)
    | (go_big_quiet_want; (with_reducible apply quiet_load_at (ty := 23) (x := .tmp _)); rfl; rfl; assumption; go_simp; go_big_quiet_on)
    | (go_big_quiet_want; apply quiet_val; (intro w' hw'; go_simp; first | done | rfl); go_simp; go_big_quiet_on)
    | (go_big_quiet_want; apply quiet_call (f := 12); (intro w' hw'; go_simp; first | done | rfl); (intro w' hw'; exact Grew.call hw' (HR.out w' (below_next hD.out hw'))); go_simp; go_big_quiet_on)
    | (go_big_quiet_want; apply quiet_call (f := 13); (intro w' hw'; go_simp; first | done | rfl); (intro w' hw'; exact Grew.call hw' (HRR.out w' (below_next hD.out hw'))); go_simp; go_big_quiet_on)
    | (go_big_quiet_skip))
  refine wpQuiet_nil ?_
  intro w9 hw9
  go_wp2
  go_ret
  exact ⟨rfl, below_next hbD hw9⟩

end Go.Proofs.Ytnomekfemadpeaa
