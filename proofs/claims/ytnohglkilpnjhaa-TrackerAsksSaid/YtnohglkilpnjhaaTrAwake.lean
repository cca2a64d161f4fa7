/- The walk of the laws' awake. No condition. -/
import Derived.Test.YtnohglkilpnjhaaTrAnn
import Derived.Test.YtnohglkilpnjhaaGb
namespace Go.Proofs.Ytnohglkilpnjhaa
open Go.RowKit
set_option linter.unusedVariables false
set_option linter.unusedSimpArgs false
set_option maxRecDepth 100000

theorem dig0_len : dig0.length = 32 := rfl
theorem build_digz (w : World) : (Instr.build 30 #[]).run Try.prog w = .ok (.agg (dig0.map B8).toArray) w := by kernel_rfl
theorem entE_nil {most each : Int} (h : 0 ≤ most) : EntOk most each [] := TabOk.nil h

theorem awake_tab : peersT dig0 (annT 2 2 [] dig0 7 1 5 true).1 = [⟨7, 6, true⟩] := by rfl

set_option maxHeartbeats 3200000 in
theorem awake_any (w : World) : Calls Try.prog 9 #[] w fun e w' => e = .returned (.bool true) ∧ Below w.heap.size w w' := by
  have hbd := build_digz
  go_enter Try.func9, Try.ntmps9
  go_upto_region 2 with (go_at_call 10; refine (New_ok 2 2 _ (by decide)).mono ?_; rintro e w1 ⟨t, mb, rfl, hT1, ht1, hmb1, hb1⟩; have HB1 := Lib.hid hb1; have HT1 := Lib.hid hT1; have HL1 := Lib.hid ht1; have HM1 := Lib.hid hmb1; clear hb1 hT1 ht1 hmb1)
  go_upto_region 5 with (go_at_call 11; refine (Announce_any t mb 2 2 [] dig0 7 1 5 true _ HT1.out (entE_nil (by decide)) (by decide) (by decide) dig0_len).mono ?_; rintro e w2 ⟨E2, h2, rfl, hT2, hs2⟩; have HE2 := Lib.hid h2; have HT2 := Lib.hid hT2; have HB2 := Lib.hid (hs2.below HB1.out HB1.out.size (fun k hk => by rcases hk with rfl | ⟨x, hx, _⟩; exact HM1.out; cases hx)); clear h2 hT2 hs2)
  have hok2 : EntOk 2 2 E2 := by
    unfold EntOk
    rw [HE2.out]
    exact TabOk.ann (TabOk.nil (by decide)) (by decide) (by decide) dig0_len _ _ _ _
  have hpe : peersT dig0 (tabOf E2) = [⟨7, 6, true⟩] := by rw [HE2.out]; exact awake_tab
  have HOK := Lib.hid hok2
  have HPE := Lib.hid hpe
  clear hok2 hpe
  go_upto_region 6 with (go_at_call 12; refine (Peers_any t mb 2 2 E2 dig0 _ HT2.out HOK.out (by decide) dig0_len).mono ?_; rw [HPE.out]; rintro e w3 ⟨v3, rfl, ho3, hb3⟩; have HO3 := Lib.hid ho3.row; have HB3 := Lib.hid (below_next HB2.out hb3); clear ho3 hb3)
  obtain ⟨pb, poff, pc, hv, hpl, hat⟩ := HO3.out.at_ (by simp)
  have hv3 : v3 = .slice (some ⟨pb, poff, none⟩) 1 pc := hv
  subst hv3
  have hat0 := hat 0 ⟨7, 6, true⟩ rfl
  rw [Nat.zero_mul, Nat.add_zero] at hat0
  have HAT := Lib.hid hat0
  have heq : ∀ w' : World, (binOp .eql 35 (RPeer.V ⟨7, 6, true⟩) (.agg #[.int .i64 7, .int .i64 6, .bool true])).run Try.prog w' = .ok (.bool true) w' := fun w' => run_eql_peer ⟨7, 6, true⟩ ⟨7, 6, true⟩ w'
  have hgd : ∀ (x y : Operand) (w' : World), (eqGuard .eql 35 x y (RPeer.V ⟨7, 6, true⟩) (.agg #[.int .i64 7, .int .i64 6, .bool true])).run Try.prog w' = .ok () w' := fun x y w' => run_guard_peer .eql x y ⟨7, 6, true⟩ ⟨7, 6, true⟩ w'
  have hbp : ∀ w' : World, (Instr.build 35 #[(0, .int .i64 7), (1, .int .i64 6), (2, .bool true)]).run Try.prog w' = .ok (.agg #[.int .i64 7, .int .i64 6, .bool true]) w' := fun w' => build_peer 7 6 true w'
  clear hv hat hat0
  go_wp2_with (first
    | ((with_reducible refine wpList_met (o := ⟨some 31, Op.load _ _, _, _, _, _⟩) rfl fun K hK => ?_); (refine HAT.out.wp rfl rfl (hK _ _ ?_))))
  go_ret
  exact ⟨rfl, HB3.out⟩

end Go.Proofs.Ytnohglkilpnjhaa
