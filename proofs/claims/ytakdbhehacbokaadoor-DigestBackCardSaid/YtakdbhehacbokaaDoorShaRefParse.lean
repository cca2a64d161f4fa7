/- The walk of the reference's Parse: the hash that signs are. Condition: a string no longer than a string may be. -/
import Derived.Test.YtakdbhehacbokaaDoorShaParse
namespace Go.Proofs.YtakdbhehacbokaaDoor
open Go.RowKit
set_option linter.unusedVariables false

set_option maxRecDepth 100000 in
set_option maxHeartbeats 1600000 in
theorem RParse_any (l : List UInt8) (w : World) (hl : l.length ≤ 9223372036854775807) :
    Calls Tryd.prog 24 #[.string ⟨l.toArray⟩] w fun e w' => e = .returned (.tuple #[.agg ((parseL l).map B8).toArray, .int .i64 (parseE l)]) ∧ Below w.heap.size w w' := by
  have hsz : (⟨l.toArray⟩ : ByteArray).size = l.length := by show l.toArray.size = _; simp
  obtain ⟨s, hs⟩ : ∃ s : ByteArray, s = ⟨l.toArray⟩ := ⟨_, rfl⟩
  rw [← hs] at hsz ⊢
  have HIX := Lib.hid (fun j hj W => hs ▸ index_str l j hj W)
  have hsl : (s.size : Int) = (l.length : Int) := by omega
  clear hs
  go_enter Tryd.func24, Tryd.ntmps24
  go_upto_region 2 with (fail)
  generalize hW1 : (w.alloc _).alloc _ = W1
  obtain ⟨hR, hD, hb, hz⟩ : Octs W1 w.heap.size 25 (List.replicate 32 0) ∧ Octs W1 (w.heap.size + 1) 25 (List.replicate 32 0) ∧ Below w.heap.size w W1 ∧ w.heap.size + 2 = W1.heap.size := by
    subst hW1
    exact octs_pair w _ (List.replicate 32 0) (List.replicate 32 0) _ _ (by rfl) (by rfl)
  clear hW1
  by_cases h64 : l.length = 64
  case neg =>
    have t0 : ((s.size : Int) != 64) = true := by simp; omega
    have t1 : ((l.length : Int) != 64) = true := by simp; omega
    have hp : parseL l = List.replicate 32 0 ∧ parseE l = 2 := by
      unfold parseL parseE
      rw [if_neg (fun h => h64 h.1), if_neg (fun h => h64 h.1)]; exact ⟨rfl, rfl⟩
    have HP := Lib.hid hp
    have HR := Lib.hid hR
    have HD := Lib.hid hD
    clear hp hR hD h64
    go_wp2_with (first | ((with_reducible refine wpList_load_octs (op := ⟨some 11, Op.load 25 (.tmp 4), _, _, _, _⟩) 25 (.tmp 4) (w.heap.size + 1) 25 (List.replicate 32 0) 32 5 ?kg ?ko ?kx ?kh ?ku ?ki ?_); (case kg => rfl); (case ko => rfl); (case kx => rfl); (case kh => exact HD.out); (case ku => exact Tryd.underlying25); (case ki => kernel_rfl)) | ((with_reducible refine wpList_store_octs (op := ⟨none, Op.store 25 (.tmp 2) (.tmp 11), _, _, _, _⟩) 25 (.tmp 2) (.tmp 11) w.heap.size 25 (List.replicate 32 0) (List.replicate 32 0) ?lg ?lo ?lx ?ly ?lh ?li ?ls ?_); (case lg => rfl); (case lo => rfl); (case lx => rfl); (case ly => rfl); (case lh => exact HR.out); (case li => kernel_rfl); (case ls => rfl)))
    rw [HP.out.1, HP.out.2]
    refine bodyPost_ret (results_cell_tmp rfl _ rfl rfl (run_loadVar_row _ _ 25 _ ((List.replicate 32 (0 : UInt8)).map B8).toArray (0, 0) _ (setRow_heap _ _ _ _ _ _ HR.out) Tryd.underlying25 rfl (by rw [info_dig]; simp))) rfl ⟨rfl, ?_⟩
    exact hb.trans (below_setRow' _ _ _ (Nat.le_refl _))
  case pos =>
    have t0 : ((s.size : Int) != 64) = false := by simp; omega
    have t1 : (s.size : Int) = 64 := by omega
    have H64 := Lib.hid h64
    clear h64 hsl hsz
    go_wp2
    go_loopw [5] (fun iv wr => ∃ k : Nat, k ≤ 32 ∧ iv = .int .i64 k ∧ okTo l (2 * k) = true ∧ Octs wr (w.heap.size + 1) 25 (laidN (numAt l) (2 * k)) ∧ Octs wr w.heap.size 25 (List.replicate 32 0) ∧ Below w.heap.size w wr)
      (fun iv _ => 32 - (intOf iv).toNat)
    case atStart => exact ⟨0, by omega, rfl, rfl, by rw [laidN_zero]; exact hD, hR, hb⟩
    case round =>
      clear hD hR hb
      obtain ⟨k, hk, rfl, hok, hD, hR, hb⟩ := hrel
      by_cases hlt : k < 32
      · obtain ⟨c, hc⟩ : ∃ c, c = l.getD (2 * k) 0 := ⟨_, rfl⟩
        obtain ⟨d, hd⟩ : ∃ c, c = l.getD (2 * k + 1) 0 := ⟨_, rfl⟩
        have hix := HIX.out (2 * k) (by rw [H64.out]; omega)
        have hix2 := HIX.out (2 * k + 1) (by rw [H64.out]; omega)
        rw [← hc, show ((2 * k : Nat) : Int) = 2 * (k : Int) by omega] at hix
        rw [← hd, show ((2 * k + 1 : Nat) : Int) = 2 * (k : Int) + 1 by omega] at hix2
        have hnc : numAt l (2 * k) = valN c := by unfold numAt; rw [hc]
        have hnd : numAt l (2 * k + 1) = valN d := by unfold numAt; rw [hd]
        obtain ⟨x, hx⟩ : ∃ v, v = valN c := ⟨_, rfl⟩
        obtain ⟨y, hy⟩ : ∃ v, v = valN d := ⟨_, rfl⟩
        have hxle := valN_le c
        have hyle := valN_le d
        rw [← hx] at hnc hxle
        rw [← hy] at hnd hyle
        have HX := Lib.hid hx
        have HY := Lib.hid hy
        have HR := Lib.hid hR
        have HIX1 := Lib.hid hix
        have HIX2 := Lib.hid hix2
        clear hix hix2
        have jk : (k : Int) < 32 := by omega
        by_cases hv : x < 16 ∧ y < 16
        · obtain ⟨hx16, hy16⟩ := hv
          have hok2 : okTo l (2 * (k + 1)) = true := by
            rw [show 2 * (k + 1) = 2 * k + 1 + 1 by omega, okTo_next, okTo_next, hok, hnc, hnd]; simp [hx16, hy16]
          have hcell := hD.cell (j := k) (by rw [laidN_len]; omega)
          have hfr := hD.free k
          unfold B8 at hcell
          have hnext := laidN_two (numAt l) k hlt
          rw [hnc, hnd] at hnext
          have hst : Value.int .u8 (16 * (x : Int) + (y : Int)) = B8 (UInt8.ofNat (16 * x + y)) := by
            unfold B8; congr 1; simp; omega
          have HN := Lib.hid hnext
          have HST := Lib.hid hst
          have HOK := Lib.hid hok2
          have HD := Lib.hid hD
          have t1 : ¬ (15 : Int) < (x : Int) := by omega
          have t2 : ¬ (15 : Int) < (y : Int) := by omega
          have x1 : (x : Int) ≤ 15 := by omega
          have y1 : (y : Int) ≤ 15 := by omega
          clear hx hy hnc hnd hc hd hok hok2 hnext hst hD hR
          have q1 := HIX1.out
          have q2 := HIX2.out
          go_wp2_with fail
          refine (RValue_any c _).mono ?_
          rintro e w1 ⟨rfl, rfl⟩
          rw [← HX.out]
          go_wp2_with fail
          refine (RValue_any d _).mono ?_
          rintro e w1 ⟨rfl, rfl⟩
          rw [← HY.out]
          go_wp2
          go_roundw
          case rel =>
            refine ⟨k + 1, by omega, by go_num, HOK.out, ?_, HR.out.of_block (Below.heap_setCell _ _ _ _ (by simp)), hb.setCell (by simp) _⟩
            rw [HST.out, ← HN.out]
            exact HD.out.set k _
          case measure => simp [intOf]; omega
        · have hp : parseL l = List.replicate 32 0 ∧ parseE l = 2 := by
            have hf : okTo l 64 = false := by
              by_cases hx16 : x < 16
              · exact okTo_false l (2 * k + 1) 64 (by omega) (by rw [hnd]; omega)
              · exact okTo_false l (2 * k) 64 (by omega) (by rw [hnc]; omega)
            unfold parseL parseE
            rw [if_neg (fun h => by rw [hf] at h; cases h.2), if_neg (fun h => by rw [hf] at h; cases h.2)]; exact ⟨rfl, rfl⟩
          have HP := Lib.hid hp
          have hcs : (15 : Int) < (x : Int) ∨ (¬ (15 : Int) < (x : Int) ∧ (15 : Int) < (y : Int)) := by omega
          clear hp hx hy hnc hnd hc hd hok hD hR hv
          rcases hcs with t1 | ⟨t1, t2⟩
          all_goals
            have q1 := HIX1.out
            have q2 := HIX2.out
            go_wp2_with fail
            refine (RValue_any c _).mono ?_
            rintro e w1 ⟨rfl, rfl⟩
            rw [← HX.out]
            go_wp2_with fail
            refine (RValue_any d _).mono ?_
            rintro e w1 ⟨rfl, rfl⟩
            rw [← HY.out]
            go_wp2_with ((with_reducible refine wpList_store_octs (op := ⟨none, Op.store 25 (.tmp 2) (.tmp 33), _, _, _, _⟩) 25 (.tmp 2) (.tmp 33) w.heap.size 25 (List.replicate 32 0) (List.replicate 32 0) ?pg ?po ?px ?py ?ph ?pi ?ps ?_); (case pg => rfl); (case po => rfl); (case px => rfl); (case py => rfl); (case ph => exact HR.out); (case pi => kernel_rfl); (case ps => rfl))
            rw [HP.out.1, HP.out.2]
            refine bodyPost_ret (results_cell_tmp rfl _ rfl rfl (run_loadVar_row _ _ 25 _ ((List.replicate 32 (0 : UInt8)).map B8).toArray (0, 0) _ (setRow_heap _ _ _ _ _ _ HR.out) Tryd.underlying25 rfl (by rw [info_dig]; simp))) rfl ⟨rfl, ?_⟩
            exact hb.trans (below_setRow' _ _ _ (Nat.le_refl _))
      · obtain rfl : k = 32 := by omega
        have hok : okTo l 64 = true := hok
        have hD : Octs wr (w.heap.size + 1) 25 (laidN (numAt l) 64) := hD
        have hp : parseL l = laidN (numAt l) 64 ∧ parseE l = 0 := by
          unfold parseL parseE
          rw [if_pos ⟨H64.out, hok⟩, if_pos ⟨H64.out, hok⟩]; exact ⟨rfl, rfl⟩
        have HP := Lib.hid hp
        have HLN := Lib.hid (laidN_len (numAt l) 64)
        have HR := Lib.hid hR
        have HD := Lib.hid hD
        clear hp hR hD hok
        rw [show ((32 : Nat) : Int) = 32 from rfl]
        go_wp2_with (first | ((with_reducible refine wpList_load_octs (op := ⟨some 40, Op.load 25 (.tmp 4), _, _, _, _⟩) 25 (.tmp 4) (w.heap.size + 1) 25 (laidN (numAt l) 64) 32 5 ?mg ?mo ?mx ?mh ?mu ?mi ?_); (case mg => rfl); (case mo => rfl); (case mx => rfl); (case mh => exact HD.out); (case mu => exact Tryd.underlying25); (case mi => rw [HLN.out]; kernel_rfl)) | ((with_reducible refine wpList_store_octs (op := ⟨none, Op.store 25 (.tmp 2) (.tmp 40), _, _, _, _⟩) 25 (.tmp 2) (.tmp 40) w.heap.size 25 (List.replicate 32 0) (laidN (numAt l) 64) ?ng ?no ?nx ?ny ?nh ?ni ?ns ?_); (case ng => rfl); (case no => rfl); (case nx => rfl); (case ny => rfl); (case nh => exact HR.out); (case ni => rw [HLN.out]; kernel_rfl); (case ns => rw [HLN.out]; rfl)))
        rw [HP.out.1, HP.out.2]
        refine bodyPost_ret (results_cell_tmp rfl _ rfl rfl (run_loadVar_row _ _ 25 _ ((laidN (numAt l) 64).map B8).toArray (0, 0) _ (setRow_heap _ _ _ _ _ _ HR.out) Tryd.underlying25 rfl (by rw [info_dig]; simp [laidN_len]))) rfl ⟨rfl, ?_⟩
        exact hb.trans (below_setRow' _ _ _ (Nat.le_refl _))

end Go.Proofs.YtakdbhehacbokaaDoor
