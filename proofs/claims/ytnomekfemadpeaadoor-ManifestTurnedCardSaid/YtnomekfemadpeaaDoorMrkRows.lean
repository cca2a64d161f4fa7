/- The walk of merkle.rows: the rows above leaves. Conditions: the table of constants as the program lays it; some leaves, no more than 2048. -/
import Derived.Test.YtnomekfemadpeaaDoorMrkRowsPlain
import Derived.Test.YtnomekfemadpeaaDoorSeqG
import Derived.Test.YtnomekfemadpeaaDoorMrkPlaces
namespace Go.Proofs.YtnomekfemadpeaaDoor
open Go.RowKit Go.Shelf
attribute [local go_sem] Oper.semAt_some
set_option linter.unusedVariables false
set_option linter.unusedSimpArgs false

theorem or_ones : (List.range 1024).all (fun k => bits .or .i64 (((k : Nat) : Int) * 2) 1 == ((k : Nat) : Int) * 2 + 1 && IntKind.i64.wrap (((k : Nat) : Int) * 2) == ((k : Nat) : Int) * 2) = true := by decide +kernel
theorem and_ones : (List.range 2049).all (fun k => bits .and .i64 ((k : Nat) : Int) 1 == ((k % 2 : Nat) : Int)) = true := by decide +kernel
theorem and_one (k : Nat) (h : k ≤ 2048) : bits .and .i64 (k : Int) 1 = ((k % 2 : Nat) : Int) := by
  have := List.all_eq_true.1 and_ones k (List.mem_range.2 (by omega))
  simpa using this
theorem or_one (k : Nat) (h : k < 1024) : bits .or .i64 ((k : Int) * 2) 1 = (k : Int) * 2 + 1 ∧ IntKind.i64.wrap ((k : Int) * 2) = (k : Int) * 2 := by
  have := List.all_eq_true.1 or_ones k (List.mem_range.2 h)
  simpa using this

abbrev encR (g : Nat) (x : List (List UInt8) × Nat) : Array Value := #[.slice (some ⟨g, 0, none⟩) x.1.length x.2]

set_option maxRecDepth 100000 in
set_option maxHeartbeats 1600000 in
theorem rows_seq (n : Nat) (hn : 1 ≤ n) (bl n0 : Nat) (v : Value) (l0 : List (List UInt8)) (h1 : 0 < l0.length) (hlen : l0.length ≤ 2048) (W : World) (w0 : World) (hK : Consts w0) (hw0 : w0.heap.size = n0) (hb0 : Below n0 w0 W) (hc : W.cell? ⟨bl, 0, none⟩ = some v) (hl : Digs W v l0) :
    SeqG Fence.wide n Tryd.prog 85 #[.pointer (some ⟨bl, 0, none⟩)] encR (fun g pre x W' => (pre ++ [x]).map (·.1) <+: rowsL l0 ∧ OwnD W' W.heap.size (.slice (some ⟨g, 0, none⟩) x.1.length x.2) x.1)
      (fun xs => xs.map (·.1) = rowsL l0) (fun _ => True) n0 (rowsL l0).length W := fun l J Jx hJ hJx hY h0 => by
  obtain ⟨va, vc, hv⟩ := hl.len
  subst hv
  have HL := Lib.hid hl
  clear hl
  refine callsIn_of_wp Tryd.func85 rfl trivial ?_ rfl
  simp only [Tryd.ntmps85, List.size_toArray, List.length_cons, List.length_nil, Nat.reduceAdd, Nat.reduceSub, Array.replicate_succ, Array.replicate_zero, List.push_toArray, List.append_toArray, List.nil_append, List.cons_append]
  gi_wp2_with (refine ⟨trivial, ?_⟩; gi_at_call 86; refine (callsIn_wide.2 (DClone_any _ l0 _ HL.out (by omega))).mono ?_; rintro e w1 ⟨v1, rfl, ho1, hb1⟩)
  obtain ⟨g, cap, rfl, hg⟩ : ∃ g cap, v1 = .slice (some ⟨g, 0, none⟩) l0.length cap ∧ W.heap.size ≤ g := by
    rcases ho1.2.2 with ⟨_, h⟩ | ⟨g, cap, cur, hv, hb, _⟩
    · omega
    · exact ⟨g, cap, hv, hb⟩
  have hj0 := h0 g w1 hg hb1
  have hB1 : Below n0 w0 w1 := hb0.trans (hb1.mono (by have := hb0.size; omega))
  have hn0 : n0 ≤ W.heap.size := by have := hb0.size; omega
  clear h0 hb1 hc
  gi_loopw [3] (fun v wr => ∃ (pre : List (List (List UInt8) × Nat)) (cur : List (List UInt8)) (cap : Nat), v = .slice (some ⟨g, 0, none⟩) cur.length cap ∧ rowsL l0 = pre.map (·.1) ++ rowsL cur ∧ 0 < cur.length ∧ cur.length ≤ 2048 ∧
      OwnD wr W.heap.size (.slice (some ⟨g, 0, none⟩) cur.length cap) cur ∧ Below n0 w0 wr ∧ J g pre wr)
    (fun v _ => match v with | .slice _ n _ => n | _ => 0)
  case atStart => exact ⟨[], l0, cap, rfl, rfl, h1, hlen, ho1, hB1, hj0⟩
  case round =>
    clear ho1 hj0 h1 hlen hB1
    obtain ⟨pre, cur, cap, rfl, hrow, h1, hlen, ho, hB, hj⟩ := hrel
    have HR := Lib.hid hrow
    have HO := Lib.hid ho
    have HB := Lib.hid hB
    clear hrow ho hB
    by_cases hlt : 1 < cur.length
    · obtain ⟨fn, tmps, assign, body, hy, hR⟩ := hY g pre (cur, cap) wr hg hj ⟨by rw [HR.out, rowsL_step hlt]; simp, HO.out⟩ (by rw [HR.out, rowsL_step hlt]; simp)
      dsimp only [encR] at hy
      have ht : ((1 : Int) < (cur.length : Int)) := by omega
      gi_wp2
      refine hR.mono ?_
      rintro e W3 (⟨rfl, hJ3, hk3⟩ | ⟨rfl, hJx3⟩)
      · have ho3 : OwnD W3 W.heap.size (.slice (some ⟨g, 0, none⟩) cur.length cap) cur := by
          refine ⟨HO.out.1, HO.out.2.1, ?_⟩
          rcases HO.out.2.2 with ⟨h, _⟩ | ⟨g', cap', cur', hv, hb, hh, hr⟩
          · cases h
          · cases hv
            exact .inr ⟨g, cap, cur', rfl, hb, (hk3.block g (Array.getElem?_eq_some_iff.1 hh).1 (.inl rfl)).trans hh, hr⟩
        have hB3 : Below n0 w0 W3 := Kept.to_below HB.out hk3 (by have := HB.out.size; omega) (fun k hk => .inr hk)
        have HO3 := Lib.hid ho3
        have HB3 := Lib.hid hB3
        clear ho3 hB3
        gi_wp2
        refine wpIn_wide.2 ?_
        go_loopw [17] (fun iv wr => ∃ k : Nat, k ≤ cur.length / 2 ∧ iv = .int .i64 (k : Int) ∧ OwnD wr W.heap.size (.slice (some ⟨g, 0, none⟩) cur.length cap) (contL cur k) ∧ Below n0 w0 wr ∧ Kept (fun k => ¬ k = g) W3 wr)
          (fun iv _ => cur.length - (intOf iv).toNat)
        case atStart => exact ⟨0, by omega, rfl, by simpa [contL] using HO3.out, HB3.out, Kept.refl _ _⟩
        case round =>
          obtain ⟨k, hk, rfl, ho4, hb4, hk4⟩ := hrel
          by_cases hlt2 : k < cur.length / 2
          · have t1 : ((k : Int) < (cur.length : Int) / 2) := by omega
            obtain ⟨e1, e2⟩ := or_one k (by omega)
            have e3 : ((k : Int) * 2).toNat = 2 * k := by omega
            have e4 : ((k : Int) * 2 + 1).toNat = 2 * k + 1 := by omega
            have b1 : (0 : Int) ≤ (k : Int) * 2 := by omega
            have b2 : (k : Int) * 2 < (cur.length : Int) := by omega
            have b3 : (0 : Int) ≤ (k : Int) * 2 + 1 := by omega
            have b4 : (k : Int) * 2 + 1 < (cur.length : Int) := by omega
            have b5 : k < cur.length := by omega
            have hcl := contL_len hk
            obtain ⟨bb, boff, bc, hbv, hbl, hat⟩ := ho4.digs.at_ (by omega)
            obtain ⟨rfl, rfl⟩ : bb = g ∧ boff = 0 := by
              simp only [Value.slice.injEq, Option.some.injEq, Addr.mk.injEq] at hbv
              exact ⟨hbv.1.1.symm, hbv.1.2.1.symm⟩
            have hglt : bb < wr.heap.size := hbl
            have d1 : (cur.getD (2 * k) []).length = 32 := HO.out.1.getD (by omega)
            have d2 : (cur.getD (2 * k + 1) []).length = 32 := HO.out.1.getD (by omega)
            have hx1 : ∀ j, j < 32 → wr.cell? ⟨bb, 2 * k * 32 + j, none⟩ = ((cur.getD (2 * k) []).map B8)[j]? := fun j hj => by
              have := hat (2 * k) (by omega) j hj
              rwa [Nat.zero_add, contL_at hk (by omega)] at this
            have hx2 : ∀ j, j < 32 → wr.cell? ⟨bb, (2 * k + 1) * 32 + j, none⟩ = ((cur.getD (2 * k + 1) []).map B8)[j]? := fun j hj => by
              have := hat (2 * k + 1) (by omega) j hj
              rwa [Nat.zero_add, contL_at hk (by omega)] at this
            have HX1 := Lib.hid hx1
            have HX2 := Lib.hid hx2
            have HB4 := Lib.hid hb4
            have HO4 := Lib.hid ho4
            have D1 := Lib.hid d1
            have D2 := Lib.hid d2
            have HCL := Lib.hid hcl
            clear hx1 hx2 hat hbv hb4 ho4 d1 d2 hcl
            go_upto_region 6 with (fail)
            refine wp_region_grew_tail 14 (by kernel_rfl) (by kernel_rfl) ?_
            simp only [List.take_succ_cons, List.take_zero, List.drop_succ_cons, List.drop_zero]
            (go_big_quiet_want; apply quiet_val; (intro w' hw'; go_simp; first | done | rfl); go_simp; go_big_quiet_on)
            (go_big_quiet_want; apply quiet_val; (intro w' hw'; go_simp; first | done | rfl); go_simp; go_big_quiet_on)
            (go_big_quiet_want; apply quiet_val; (intro w' hw'; go_simp; first | done | rfl); go_simp; go_big_quiet_on)
            (go_big_quiet_want; apply quiet_val; (intro w' hw'; go_simp; first | done | rfl); go_simp; go_big_quiet_on)
            (go_big_quiet_want; apply quiet_val; (intro w' hw'; go_simp; first | done | rfl); go_simp; go_big_quiet_on)
            (go_big_quiet_want; apply quiet_val; (intro w' hw'; go_simp; first | done | rfl); go_simp; go_big_quiet_on)
            (go_big_quiet_want; (with_reducible refine quiet_load_dig (.tmp 25) bb (2 * k * 32) (cur.getD (2 * k) []) ?_ ?_ ?_ ?_ ?_ ?_); rfl; rfl; exact D1.out; exact hglt; exact HX1.out; go_simp; go_big_quiet_on)
            (go_big_quiet_want; apply quiet_val; (intro w' hw'; go_simp; first | done | rfl); go_simp; go_big_quiet_on)
            (go_big_quiet_want; apply quiet_val; (intro w' hw'; go_simp; first | done | rfl); go_simp; go_big_quiet_on)
            (go_big_quiet_want; apply quiet_val; (intro w' hw'; go_simp; first | done | rfl); go_simp; go_big_quiet_on)
            (go_big_quiet_want; apply quiet_val; (intro w' hw'; go_simp; first | done | rfl); go_simp; go_big_quiet_on)
            (go_big_quiet_want; apply quiet_val; (intro w' hw'; go_simp; first | done | rfl); go_simp; go_big_quiet_on)
            (go_big_quiet_want; (with_reducible refine quiet_load_dig (.tmp 31) bb ((2 * k + 1) * 32) (cur.getD (2 * k + 1) []) ?_ ?_ ?_ ?_ ?_ ?_); rfl; rfl; exact D2.out; exact hglt; exact HX2.out; go_simp; go_big_quiet_on)
            (go_big_quiet_want; apply quiet_call (f := 74); (intro w' hw'; go_simp; first | done | rfl); (intro w' hw'; exact Grew.call hw' (Node_any _ _ _ D1.out D2.out (hK.of_new (by rw [hw0]; exact HB4.out.trans (Below.mono hw' (by have := HB4.out.size; omega)))))); go_simp; go_big_quiet_on)
            refine wpQuiet_nil ?_
            intro w5 hw5
            have HO5 := Lib.hid (OwnD.of_new HO4.out hw5)
            have HW5 := Lib.hid hw5
            clear hw5
            go_wp2_with ((with_reducible refine wpList_store_dig (op := ⟨none, Op.store 25 (.tmp 34) (.tmp 33), _, _, _, _⟩) (.tmp 34) (.tmp 33) W.heap.size bb cur.length cap (contL cur k) k (nodeL (cur.getD (2 * k) []) (cur.getD (2 * k + 1) [])) ?g ?ho ?hx ?hy ?hh ?hi ?hd ?_); (case g => rfl); (case ho => rfl); (case hx => rfl); (case hy => simp only [List.getD_eq_getElem?_getD]; rfl); (case hh => exact HO5.out); (case hi => rw [HCL.out]; exact b5); (case hd => exact nodeL_len _ _); intro cs hcs)
            have hset := contL_set (l := cur) (k := k) (by omega) hk
            rw [aboveL_at cur k (by omega)] at hset
            refine ⟨⟨k + 1, by omega, by simp, ?_, ?_, ?_⟩, by simp [intOf]; omega⟩
            · show OwnD _ _ _ ((aboveL cur).take (k + 1) ++ cur.drop (k + 1))
              rw [← hset]; exact hcs
            · exact (HB4.out.trans (Below.mono HW5.out (by have := HB4.out.size; omega))).trans (below_setRow' _ _ _ (by omega))
            · exact (hk4.below HW5.out).grown (grown_setRow _ _ _) (fun r e => by cases e; simp)
          · obtain rfl : k = cur.length / 2 := by omega
            have t1 : ¬ (((cur.length / 2 : Nat) : Int) < (cur.length : Int) / 2) := by omega
            have HB4 := Lib.hid hb4
            have HO4 := Lib.hid ho4
            have HK4 := Lib.hid hk4
            clear hb4 ho4 hk4
            have hcap : cur.length ≤ cap := by
              rcases HO.out.2.2 with ⟨h, _⟩ | ⟨g', cap', cur', hv, hb, hh, hn, _⟩
              · cases h
              · cases hv; exact hn
            have c1 : ((cur.length : Int) + 1) / 2 ≤ (cap : Int) := by omega
            have c0 : (0 : Int) ≤ ((cur.length : Int) + 1) / 2 := by omega
            have hand := and_one cur.length hlen
            go_wp2
            refine wpIn_wide.2 ?_
            by_cases hodd : cur.length % 2 = 1
            · rw [hodd] at hand
              have hcl := contL_len hk
              have f1 : (0 : Int) ≤ (cur.length : Int) - 1 := by omega
              have f2 : (cur.length : Int) - 1 < (cur.length : Int) := by omega
              have f3 : ((cur.length : Int) - 1).toNat = cur.length - 1 := by omega
              have f4 : cur.length / 2 < cur.length := by omega
              obtain ⟨bb, boff, bc, hbv, hbl, hat⟩ := HO4.out.digs.at_ (by omega)
              obtain ⟨rfl, rfl⟩ : bb = g ∧ boff = 0 := by
                simp only [Value.slice.injEq, Option.some.injEq, Addr.mk.injEq] at hbv
                exact ⟨hbv.1.1.symm, hbv.1.2.1.symm⟩
              have hx1 : ∀ j, j < 32 → wr.cell? ⟨bb, (cur.length - 1) * 32 + j, none⟩ = ((cur.getD (cur.length - 1) []).map B8)[j]? := fun j hj => by
                have := hat (cur.length - 1) (by omega) j hj
                rwa [Nat.zero_add, contL_at hk (by omega)] at this
              have HX1 := Lib.hid hx1
              have D1 := Lib.hid (HO.out.1.getD (show cur.length - 1 < cur.length by omega))
              have HCL := Lib.hid hcl
              clear hx1 hat hbv hcl
              go_upto_region 9 with (fail)
              go_wp2_with (first
                | ((with_reducible refine wpList_load_dig (op := ⟨some 49, Op.load 25 (.tmp 48), _, _, _, _⟩) (.tmp 48) bb ((cur.length - 1) * 32) (cur.getD (cur.length - 1) []) ?g ?ho ?hx ?hd ?hc ?_); (case g => rfl); (case ho => rfl); (case hx => rfl); (case hd => exact D1.out); (case hc => exact HX1.out))
                | ((with_reducible refine wpList_store_dig (op := ⟨none, Op.store 25 (.tmp 50) (.tmp 49), _, _, _, _⟩) (.tmp 50) (.tmp 49) W.heap.size bb cur.length cap (contL cur (cur.length / 2)) (cur.length / 2) (cur.getD (cur.length - 1) []) ?g ?ho ?hx ?hy ?hh ?hi ?hd ?_); (case g => rfl); (case ho => rfl); (case hx => rfl); (case hy => simp only [List.getD_eq_getElem?_getD]; rfl); (case hh => exact HO4.out); (case hi => rw [HCL.out]; exact f4); (case hd => exact D1.out); intro cs hcs))
              have hset := contL_set (l := cur) (k := cur.length / 2) (by omega) hk
              rw [aboveL_last cur hodd, List.take_of_length_le (by rw [aboveL_len]; omega)] at hset
              refine ⟨⟨pre ++ [(cur, cap)], aboveL cur, cap, by rw [aboveL_len], by rw [HR.out, rowsL_step hlt]; simp, by rw [aboveL_len]; omega, by rw [aboveL_len]; omega, ?_,
                HB4.out.trans (below_setRow' _ _ _ (by omega)), hJ bb hg _ _ _ hJ3 (HK4.out.grown (grown_setRow _ _ _) (fun r e => by cases e; simp))⟩, by simp; omega⟩
              rw [hset] at hcs
              have := OwnD.first (m := (aboveL cur).length) hcs (by rw [List.length_append]; omega)
              rwa [List.take_left' rfl] at this
            · rw [show cur.length % 2 = 0 by omega] at hand
              go_wp2
              go_roundw
              case rel =>
                have hc0 : contL cur (cur.length / 2) = aboveL cur ++ cur.drop (cur.length / 2) := by
                  unfold contL
                  rw [List.take_of_length_le (by rw [aboveL_len]; omega)]
                refine ⟨pre ++ [(cur, cap)], aboveL cur, cap, by rw [aboveL_len], by rw [HR.out, rowsL_step hlt]; simp, by rw [aboveL_len]; omega, by rw [aboveL_len]; omega, ?_, HB4.out, hJ g hg _ _ _ hJ3 HK4.out⟩
                have := OwnD.first (m := (aboveL cur).length) HO4.out (by rw [contL_len hk, aboveL_len]; omega)
                rwa [hc0, List.take_left' rfl] at this
              case measure => simp; omega
      · gi_wp2
        refine bodyPost_ret (results_none rfl _ _ _) rfl ?_
        exact ⟨⟨_, rfl⟩, g, hg, .inr ⟨_, trivial, hJx3⟩⟩
    · obtain ⟨fn, tmps, assign, body, hy, hR⟩ := hY g pre (cur, cap) wr hg hj ⟨by rw [HR.out, rowsL_end (by omega)]; simp, HO.out⟩ (by rw [HR.out, rowsL_end (by omega)]; simp)
      dsimp only [encR] at hy
      have ht : ¬ ((1 : Int) < (cur.length : Int)) := by omega
      gi_wp2
      refine hR.mono ?_
      rintro e W3 (⟨rfl, hJ3, hk3⟩ | ⟨rfl, hJx3⟩)
      · gi_wp2
        go_end0
        exact ⟨⟨_, rfl⟩, g, hg, .inl ⟨pre ++ [(cur, cap)], by rw [HR.out, rowsL_end (by omega)]; simp, hJ3⟩⟩
      · gi_wp2
        go_end0
        exact ⟨⟨_, rfl⟩, g, hg, .inr ⟨_, trivial, hJx3⟩⟩


end Go.Proofs.YtnomekfemadpeaaDoor
