/- The walks of the reference's hash and number: what an item tells. No condition. -/
import Derived.Test.YtnomekfemadpeaaDoorMfImage
import Derived.Test.YtnomekfemadpeaaDoorTlvFindR
import Derived.Test.YtnomekfemadpeaaDoorTlvTo
import Derived.Test.YtnomekfemadpeaaDoorDigO
import Derived.IntWalk
namespace Go.Proofs.YtnomekfemadpeaaDoor
open Go.RowKit
set_option linter.unusedVariables false
set_option linter.unusedSimpArgs false
set_option maxRecDepth 100000

set_option maxHeartbeats 1600000 in
theorem RHash_any (v : Value) (l : List It) (n : Int) (w : World) (hl : Items w v l) :
    Calls Tryd.prog 58 #[v, .int .i64 n] w fun e w' => e = .returned (.agg ((rhash l n).map B8).toArray) ∧ Below w.heap.size w w' := by
  have HF := Lib.hid (fun W h => refFind_any v l n W h)
  have HL := Lib.hid hl
  clear hl
  have HE := Lib.hid (show rhash l n = if ((findL n l).getD []).length = 32 then (findL n l).getD [] else dig0 from rfl)
  obtain ⟨R, hR⟩ : ∃ R, rhash l n = R := ⟨_, rfl⟩
  rw [hR] at HE ⊢
  clear hR
  generalize findL n l = F at *
  go_enter Tryd.func58, Tryd.ntmps58
  go_upto_region 2 with (first
    | ((with_reducible refine wpList_plain (o := ⟨some 4, Op.alloc _, _, _, _, _⟩) rfl fun K hK => ?_); (refine wp_alloc_dig rfl fun w1 h1 hb1 hs1 => hK _ _ ?_); have H1 := Lib.hid h1; have HB1 := Lib.hid hb1; have HS1 := Lib.hid hs1; clear h1 hb1 hs1)
    | (go_at_call 80; refine (HF.out _ (HL.out.of_new HB1.out)).mono ?_; rintro e w2 ⟨v2, rfl, hbv, hb2⟩; have HV2 := Lib.hid hbv; have H2 := Lib.hid (H1.out.of_new hb2); have HB2 := Lib.hid (below_next HB1.out hb2); clear hbv hb2))
  obtain ⟨B, hB⟩ : ∃ B, F.getD [] = B := ⟨_, rfl⟩
  have hbv := HV2.out
  rw [hB] at hbv HE
  obtain ⟨va, vc, hv⟩ := hbv.len
  subst hv
  obtain ⟨g, hg⟩ : ∃ g, w2.heap.size = g := ⟨_, rfl⟩
  have HG := Lib.hid hg
  have hwg : w.heap.size < g := by rw [← hg]; exact H2.out.lt
  have HBV := Lib.hid hbv
  clear hB hbv HV2 hg
  by_cases h32 : B.length = 32
  case neg =>
    have t1 : ((B.length : Int) == 32) = false := beq_eq_false_iff_ne.2 (by omega)
    have HEE := Lib.hid (show R = dig0 by rw [HE.out, if_neg h32])
    clear h32
    go_wp2_with (first
      | ((with_reducible refine wpList_plain (o := ⟨some 7, Op.alloc _, _, _, _, _⟩) rfl fun K hK => ?_); (refine wp_alloc_dig rfl fun w3 h3 hb3 hs3 => hK _ _ ?_); rw [HG.out] at h3 hs3 ⊢; have H3 := Lib.hid h3; have HB3 := Lib.hid (below_next HB2.out hb3); have H13 := Lib.hid (H2.out.of_new hb3); clear h3 hb3 hs3))
    go_loopw [8] (fun iv W => iv = .int .i64 0 ∧ DigO W w.heap.size dig0 ∧ DigO W g dig0 ∧ Below w.heap.size w W) (fun iv _ => 0)
    case atStart => exact ⟨rfl, H13.out, H3.out, HB3.out⟩
    case round =>
      obtain ⟨rfl, hd1, hd2, hb⟩ := hrel
      have HD1 := Lib.hid hd1
      have HD2 := Lib.hid hd2
      have HB := Lib.hid hb
      clear hd1 hd2 hb
      go_wp2_with (first
        | ((with_reducible refine wpList_plain (o := ⟨some 30, Op.load _ _, _, _, _, _⟩) rfl fun K hK => ?_); (refine wp_load_at (ty := 25) (x := .tmp 7) rfl rfl HD2.out.at_ (hK _ _ ?_)))
        | ((with_reducible refine wpList_plain (o := ⟨none, Op.store _ (.tmp 4) (.tmp 30), _, _, _, _⟩) rfl fun K hK => ?_); (refine wp_store_digO (.tmp 4) (.tmp 30) w.heap.size dig0 dig0 rfl rfl rfl rfl HD1.out fun w4 h4 hg4 hs4 => hK _ _ ?_); have H4 := Lib.hid h4; have HG4 := Lib.hid hg4; clear h4 hg4 hs4))
      refine bodyPost_ret (results_dig rfl _ rfl H4.out) rfl ?_
      exact ⟨by rw [HEE.out], HB.out.grown HG4.out (by have := HB.out.size; omega) (fun k e => by cases e; omega)⟩
  have HEE := Lib.hid (show R = B by rw [HE.out, if_pos h32])
  obtain ⟨bb, off, c, hv, hbb, hc⟩ := HBV.out.cell (by omega)
  obtain ⟨rfl, rfl⟩ : va = some ⟨bb, off, none⟩ ∧ vc = c := by cases hv; exact ⟨rfl, rfl⟩
  have hlc : 32 ≤ vc := by
    obtain ⟨_, a', c', hv, hn, _⟩ := HBV.out
    cases hv; omega
  rw [h32]
  have HC := Lib.hid hc
  have H32 := Lib.hid h32
  rw [HG.out] at hbb
  clear hc h32 hv
  go_wp2_with (first
    | ((with_reducible refine wpList_plain (o := ⟨some 7, Op.alloc _, _, _, _, _⟩) rfl fun K hK => ?_); (refine wp_alloc_dig rfl fun w3 h3 hb3 hs3 => hK _ _ ?_); rw [HG.out] at h3 hs3 ⊢; have H3 := Lib.hid h3; have HB3 := Lib.hid hb3; have H13 := Lib.hid (H2.out.of_new hb3); clear h3 hb3 hs3))
  go_loopw [8] (fun iv W => ∃ k : Nat, k ≤ 32 ∧ iv = .int .i64 k ∧ DigO W w.heap.size dig0 ∧ DigO W g (filled B k) ∧ Below w2.heap.size w2 W) (fun iv _ => 32 - (intOf iv).toNat)
  case atStart => exact ⟨0, Nat.zero_le _, rfl, H13.out, by rw [filled_zero]; exact H3.out, HB3.out⟩
  case round =>
    obtain ⟨k, hk, rfl, hd1, hd2, hb⟩ := hrel
    by_cases hlt : k < 32
    · have hci := (hb.cell (p := ⟨bb, off + k, none⟩) (by rw [HG.out]; exact hbb)).trans (HC.out k (by rw [H32.out]; exact hlt))
      have hst := filled_step H32.out hlt
      have hc2 := hd2.cell hlt
      have hf2 := hd2.free k
      obtain ⟨x, hx⟩ : ∃ x, B.getD k 0 = x := ⟨_, rfl⟩
      rw [hx] at hci hst
      unfold B8 at hci hc2
      have HST := Lib.hid hst
      have HD1 := Lib.hid hd1
      have HD2 := Lib.hid hd2
      have HB := Lib.hid hb
      have hki : (k : Int) < 32 := by omega
      clear hst hd1 hd2 hb hx
      go_wp2
      go_roundw
      case rel =>
        refine ⟨k + 1, by omega, by go_num, HD1.out.of_block (Below.heap_setCell _ _ _ _ (by show w.heap.size ≠ g; omega)), ?_, HB.out.setCell (p := ⟨g, k, none⟩) (by show w2.heap.size ≤ g; rw [HG.out]; exact Nat.le_refl _) _⟩
        rw [← HST.out]
        exact HD2.out.set k x
      case measure => simp [intOf]; omega
    · obtain rfl : k = 32 := by omega
      rw [filled_all H32.out] at hd2
      have HD1 := Lib.hid hd1
      have HD2 := Lib.hid hd2
      have HB := Lib.hid (below_next HB2.out hb)
      clear hd1 hd2 hb
      go_wp2_with (first
        | ((with_reducible refine wpList_plain (o := ⟨some 30, Op.load _ _, _, _, _, _⟩) rfl fun K hK => ?_); (refine wp_load_at (ty := 25) (x := .tmp 7) rfl rfl HD2.out.at_ (hK _ _ ?_)))
        | ((with_reducible refine wpList_plain (o := ⟨none, Op.store _ (.tmp 4) (.tmp 30), _, _, _, _⟩) rfl fun K hK => ?_); (refine wp_store_digO (.tmp 4) (.tmp 30) w.heap.size B dig0 rfl rfl rfl H32.out HD1.out fun w4 h4 hg4 hs4 => hK _ _ ?_); have H4 := Lib.hid h4; have HG4 := Lib.hid hg4; clear h4 hg4 hs4))
      refine bodyPost_ret (results_dig rfl _ rfl H4.out) rfl ?_
      exact ⟨by rw [HEE.out], HB.out.grown HG4.out (by have := HB.out.size; omega) (fun k e => by cases e; omega)⟩

set_option maxHeartbeats 1600000 in
theorem RNum_any (v : Value) (l : List It) (n : Int) (w : World) (hl : Items w v l) :
    Calls Tryd.prog 59 #[v, .int .i64 n] w fun e w' => e = .returned (.int .i64 (rnum l n)) ∧ Below w.heap.size w w' := by
  have HF := Lib.hid (fun W h => refFind_any v l n W h)
  have HL := Lib.hid hl
  clear hl
  have HE := Lib.hid (show rnum l n = match toU ((findL n l).getD []) with | some k => if k ≤ 1048576 then (k : Int) else 0 | none => 0 from rfl)
  obtain ⟨R, hR⟩ : ∃ R, rnum l n = R := ⟨_, rfl⟩
  rw [hR] at HE ⊢
  clear hR
  generalize findL n l = F at *
  have HT := Lib.hid (fun v W h => refToUint_any v (F.getD []) W h)
  have hlt := fun k => toU_lt (l := F.getD []) (n := k)
  generalize toU (F.getD []) = O at *
  go_enter Tryd.func59, Tryd.ntmps59
  go_upto_region 3 with (first
    | (go_at_call 80; refine (HF.out _ HL.out).mono ?_; rintro e w2 ⟨v2, rfl, hbv, hb2⟩; have HV2 := Lib.hid hbv; have HB2 := Lib.hid hb2; clear hbv hb2)
    | (go_at_call 81; refine (HT.out _ _ HV2.out).mono ?_; rintro e w3 ⟨rfl, hb3⟩; have HB3 := Lib.hid (below_next HB2.out hb3); clear hb3))
  rcases O with _ | k
  · have HEE := Lib.hid (show R = 0 from HE.out)
    have e0 : errOf (none : Option Nat).isSome = 2 := rfl
    clear HE hlt
    go_wp2
    go_ret
    exact ⟨ret_int5 HEE.out, HB3.out⟩
  · have hk := hlt k rfl
    have e0 : errOf (some k : Option Nat).isSome = 0 := rfl
    have hE : R = if k ≤ 1048576 then (k : Int) else 0 := HE.out
    by_cases h : k ≤ 1048576
    · have HEE := Lib.hid (show R = (k : Int) by rw [hE, if_pos h])
      have t1 : ¬ (1048576 : Int) < (k : Int) := by omega
      have hw1 : IntKind.i64.wrap (k : Int) = (k : Int) := IntWalk.i64_in _ (by omega)
      clear HE hlt hE
      go_wp2
      go_ret
      exact ⟨ret_int5 HEE.out, HB3.out⟩
    · have HEE := Lib.hid (show R = 0 by rw [hE, if_neg h])
      have t1 : (1048576 : Int) < (k : Int) := by omega
      clear HE hlt hE
      go_wp2
      go_ret
      exact ⟨ret_int5 HEE.out, HB3.out⟩

end Go.Proofs.YtnomekfemadpeaaDoor
