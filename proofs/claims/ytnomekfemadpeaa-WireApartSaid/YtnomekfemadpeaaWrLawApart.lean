/- The walk of the law WireApart: it answers true. No condition. -/
import Derived.Test.YtnomekfemadpeaaWrLawFew
import Derived.Test.YtnomekfemadpeaaWrSameMsg
import Derived.Test.YtnomekfemadpeaaWrApartPlain
namespace Go.Proofs.Ytnomekfemadpeaa
open Go.RowKit
set_option linter.unusedVariables false
set_option linter.unusedSimpArgs false
set_option maxRecDepth 100000

set_option maxHeartbeats 3200000 in
theorem WireApart_walk (a : MsgL) (s : MsgS) (b : MsgL) (u : MsgS) (w : World) (ha : MsgR w a s) (hb : MsgR w b u) :
    Calls Try.prog 4 #[MsgV a s, MsgV b u] w fun e w' => e = .returned (.bool true) ∧ Below w.heap.size w w' := by
  obtain ⟨W, hW, hoa, hob, hbb⟩ := msg_boxed2 w (s := s) (u := u) ha.hash hb.hash
  rw [show MsgV a s = .agg (msgCells a s).toArray from rfl, show MsgV b u = .agg (msgCells b u).toArray from rfl]
  have HA := Lib.hid ha
  have HB := Lib.hid hb
  have HOA := Lib.hid hoa
  have HOB := Lib.hid hob
  have HW := Lib.hid hW
  clear hW ha hb hoa hob
  go_enter Try.func4, Try.ntmps4
  go_upto_region 1 with (fail)
  rw [HW.out]
  go_wp2_with fail
  refine (awake17_any W).mono ?_
  rintro e w1 ⟨rfl, hb1⟩
  have hbA := below_next hbb hb1
  have OA1 := Lib.hid (HOA.out.of_new hb1)
  have OB1 := Lib.hid (HOB.out.of_new hb1)
  clear hb1
  go_upto_region 3 with (first
    | ((with_reducible refine wpList_plain (o := ⟨some 14, Op.load 29 _, _, _, _, _⟩) rfl fun K hK => ?_); (refine wp_load_msg (g := w.heap.size) (m := a) (s := s) rfl rfl OA1.out (hK _ _ ?_)))
    | (go_at_call 9; refine (few17_any a s _ (HA.out.of_new hbA)).mono ?_; rintro e w2 ⟨rfl, hb2⟩))
  have hbB := below_next hbA hb2
  have OA2 := Lib.hid (OA1.out.of_new hb2)
  have OB2 := Lib.hid (OB1.out.of_new hb2)
  clear hb2
  go_upto_region 4 with (first
    | ((with_reducible refine wpList_plain (o := ⟨some 16, Op.load 29 _, _, _, _, _⟩) rfl fun K hK => ?_); (refine wp_load_msg (g := w.heap.size + 1) (m := b) (s := u) rfl rfl OB2.out (hK _ _ ?_)))
    | (go_at_call 9; refine (few17_any b u _ (HB.out.of_new hbB)).mono ?_; rintro e w3 ⟨rfl, hb3⟩))
  have hbC := below_next hbB hb3
  have OA3 := Lib.hid (OA2.out.of_new hb3)
  have OB3 := Lib.hid (OB2.out.of_new hb3)
  clear hb3
  rcases hf1 : fewB a with _ | _
  · go_wp2
    go_ret
    exact ⟨rfl, hbC⟩
  rcases hf2 : fewB b with _ | _
  · go_wp2
    go_ret
    exact ⟨rfl, hbC⟩
  clear hf1 hf2
  have hE1 := Encode17_any a s w3 (HA.out.of_new hbC)
  have hE2 := fun w' (h : Below w.heap.size w w') => Encode17_any b u w' (HB.out.of_new h)
  obtain ⟨ca, hca⟩ : ∃ c, encM a = c := ⟨_, rfl⟩
  obtain ⟨cb, hcb⟩ : ∃ c, encM b = c := ⟨_, rfl⟩
  rw [hca] at hE1
  rw [hcb] at hE2
  have HCA := Lib.hid hca
  have HCB := Lib.hid hcb
  have HE2 := Lib.hid hE2
  clear hca hcb hE2
  go_upto_region 7 with (first
    | ((with_reducible refine wpList_plain (o := ⟨some 30, Op.load 29 _, _, _, _, _⟩) rfl fun K hK => ?_); (refine wp_load_msg (g := w.heap.size) (m := a) (s := s) rfl rfl OA3.out (hK _ _ ?_)))
    | (go_at_call 10; refine hE1.mono ?_; intro e w4 hp; obtain ⟨v4, rfl, hv4, hb4⟩ := hp.both; obtain ⟨a4, c4, hv⟩ := hv4.len; subst hv; have HV4 := Lib.hid hv4; clear hp hv4))
  have hbD := below_next hbC hb4
  have OA4 := Lib.hid (OA3.out.of_new hb4)
  have OB4 := Lib.hid (OB3.out.of_new hb4)
  clear hE1 hb4
  go_upto_region 8 with (first
    | ((with_reducible refine wpList_plain (o := ⟨some 35, Op.load 29 _, _, _, _, _⟩) rfl fun K hK => ?_); (refine wp_load_msg (g := w.heap.size + 1) (m := b) (s := u) rfl rfl OB4.out (hK _ _ ?_)))
    | (go_at_call 10; refine (HE2.out _ hbD).mono ?_; intro e w5 hp; obtain ⟨v5, rfl, hv5, hb5⟩ := hp.both; obtain ⟨a5, c5, hv⟩ := hv5.len; subst hv; have HV5 := Lib.hid hv5; clear hp hv5))
  have hbE := below_next hbD hb5
  have OA5 := Lib.hid (OA4.out.of_new hb5)
  have OB5 := Lib.hid (OB4.out.of_new hb5)
  have HX5 := Lib.hid (HV4.out.of_new hb5)
  clear hb5
  cases ca with
  | none =>
    go_wp2
    go_ret
    exact ⟨rfl, hbE⟩
  | some x =>
  cases cb with
  | none =>
    go_wp2
    go_ret
    exact ⟨rfl, hbE⟩
  | some y =>
  have hinj := encM_inj HCA.out HCB.out (fun d hd => HA.out.proof.1 d hd) (fun d hd => HB.out.proof.1 d hd)
  have hSm := SameMsg_any a b s u w5 (HA.out.of_new hbE) (HB.out.of_new hbE)
  obtain ⟨D, hD⟩ : ∃ D, decide (a = b) = D := ⟨_, rfl⟩
  rw [hD] at hSm
  have hxy : decide (x = y) = D := by rw [← hD, Bool.eq_iff_iff]; simpa using hinj
  simp only [Option.getD_some, show errE (some x) = 0 from rfl, show errE (some y) = 0 from rfl] at HX5 HV5 ⊢
  have HXY := Lib.hid hxy
  clear hinj hD hxy HCA HCB HE2
  go_upto_region 11 with (first
    | ((with_reducible refine wpList_plain (o := ⟨some 45, Op.load 29 _, _, _, _, _⟩) rfl fun K hK => ?_); (refine wp_load_msg (g := w.heap.size) (m := a) (s := s) rfl rfl OA5.out (hK _ _ ?_)))
    | ((with_reducible refine wpList_plain (o := ⟨some 46, Op.load 29 _, _, _, _, _⟩) rfl fun K hK => ?_); (refine wp_load_msg (g := w.heap.size + 1) (m := b) (s := u) rfl rfl OB5.out (hK _ _ ?_)))
    | (go_at_call 14; refine hSm.mono ?_; rintro e w6 ⟨rfl, hb6⟩))
  have hbF := below_next hbE hb6
  have s1 := (HX5.out.of_new hb6).string (P := Try.prog) (t := 25) (d := 9) Try.underlying25 Try.underlying5 Try.underlying9
  have s2 := (HV5.out.of_new hb6).string (P := Try.prog) (t := 25) (d := 9) Try.underlying25 Try.underlying5 Try.underlying9
  clear hSm hb6
  cases D with
  | true =>
    have hxy := of_decide_eq_true HXY.out
    have t1 : (ByteArray.mk x.toArray == ByteArray.mk y.toArray) = true := by rw [str_eq, decide_eq_true hxy]
    have t2 : (x.toArray == y.toArray) = true := by simp [hxy]
    have t3 : (x == y) = true := by simp [hxy]
    have t4 : decide (x = y) = true := HXY.out
    clear hxy
    go_wp2
    go_ret
    exact ⟨rfl, hbF⟩
  | false =>
    have hxy := of_decide_eq_false HXY.out
    have t1 : (ByteArray.mk x.toArray == ByteArray.mk y.toArray) = false := by rw [str_eq, decide_eq_false hxy]
    have t2 : (x.toArray == y.toArray) = false := by simp [hxy]
    have t3 : (x == y) = false := by simp [hxy]
    have t4 : decide (x = y) = false := HXY.out
    clear hxy
    go_wp2
    go_ret
    exact ⟨rfl, hbF⟩

end Go.Proofs.Ytnomekfemadpeaa
