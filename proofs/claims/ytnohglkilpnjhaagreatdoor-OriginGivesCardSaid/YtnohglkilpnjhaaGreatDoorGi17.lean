/- Texts of this claim, one behind the other: each begins with a comment that says what it proves and asks. -/
import Derived.Test.YtnohglkilpnjhaaGreatDoorGi16
import Derived.Test.YtnohglkilpnjhaaGreatDoorRows
import Derived.Lib.LaidTab
/- The walk of wire.Right: whether a message may be. No condition. -/
namespace Go.Proofs.YtnohglkilpnjhaaGreatDoor
open Go.RowKit
set_option linter.unusedVariables false
set_option linter.unusedSimpArgs false
set_option maxRecDepth 100000

theorem rightF_step (m : MsgL) {k : Nat} (h1 : k ≤ 8) : rightF m (9 - k) k = (itemB m k && rightF m (9 - (k + 1)) ((k + 1 : Nat) : Int)) := by
  rw [show 9 - k = (9 - (k + 1)) + 1 by omega, rightF]
  simp
theorem rightF_end (m : MsgL) (k : Int) : rightF m (9 - 9) k = true := rfl
theorem wrightB_from (m : MsgL) : wrightB m = rightF m (9 - 1) ((1 : Nat) : Int) := rfl

set_option maxHeartbeats 3200000 in
theorem WRight_any (m : MsgL) (s : MsgS) (w : World) (hm : MsgR w m s) :
    Calls Tryz.prog 38 #[MsgV m s] w fun e w' => e = .returned (.bool (wrightB m)) ∧ Below w.heap.size w w' := by
  obtain ⟨W, hW, ho, hb⟩ := msg_boxed w (s := s) hm.hash
  obtain ⟨V, hV⟩ : ∃ V, MsgV m s = V := ⟨_, rfl⟩
  have hH := has_any m.kind W
  have e0 := ho.kind
  have hls := ho.lt
  have HM := Lib.hid hm
  have HO := Lib.hid ho
  have HW := Lib.hid hW
  obtain ⟨B, hB⟩ : ∃ B, wrightB m = B := ⟨_, rfl⟩
  rw [hB]
  have HB := Lib.hid (hB.symm.trans (wrightB_from m))
  rw [show MsgV m s = .agg (msgCells m s).toArray from rfl] at hV ⊢
  clear hW hm ho hB hV
  go_enter Tryz.func38, Tryz.ntmps38
  go_upto_region 1 with (fail)
  rw [HW.out]
  go_wp2_with (first | (go_at_call 78; refine hH.mono ?_; rintro e w2 ⟨v2, rfl, hv2, hb2⟩; obtain ⟨a2, c2, hv⟩ := hv2.len; subst hv; have HV := Lib.hid hv2; have HO2 := Lib.hid (HO.out.of_new hb2); have hbA := below_next hb hb2; clear hv2 hb2))
  go_loopw [4, 5] (fun iv _ W' => ∃ k : Nat, 1 ≤ k ∧ k ≤ 9 ∧ iv = .int .i64 k ∧ B = rightF m (9 - k) k ∧ Below w2.heap.size w2 W') (fun iv _ _ => 9 - (intOf iv).toNat)
  case atStart => exact ⟨1, by omega, by omega, rfl, HB.out, Below.refl _ _⟩
  case round =>
    obtain ⟨k, hk1, hk9, rfl, hm, hbk⟩ := hrel
    by_cases hlt : k ≤ 8
    · rw [rightF_step m hlt] at hm
      have hbw := below_next hbA hbk
      have HOk := Lib.hid (HO2.out.of_new hbk)
      have hC := Contains_any _ (hasL m.kind) k wr (HV.out.of_new hbk)
      have hF := fun w' (h : Below wr.heap.size wr w') => fits_any m s k w' (HM.out.of_new (below_next hbw h)) (by omega) (by omega)
      have hR := fun w' (h : Below wr.heap.size wr w') => bare_any m s k w' (HM.out.of_new (below_next hbw h)) (by omega) (by omega)
      generalize hQ : rightF m (9 - (k + 1)) ((k + 1 : Nat) : Int) = Q at *
      have HQ := Lib.hid hQ
      unfold itemB at hm
      clear hQ
      by_cases hin : (k : Int) ∈ hasL m.kind
      · rw [decide_eq_true hin] at hC
        rw [if_pos hin] at hm
        clear hin hR
        generalize fitsB m k = F at *
        have HN := Lib.hid hm
        clear hm
        cases F with
        | false =>
          go_wp2_with (first
            | (go_at_call 79; refine hC.mono ?_; rintro e w3 ⟨rfl, hb3⟩; have HO3 := Lib.hid (HOk.out.of_new hb3))
            | ((with_reducible refine wpList_met (o := ⟨some 18, _, _, _, _, _⟩) ?_ ?_); rfl; intro K hK; refine wp_load_msg (g := w.heap.size) (m := m) (s := s) rfl rfl HO3.out (hK _ _ ?_))
            | (go_at_call 80; refine (hF _ hb3).mono ?_; rintro e w4 ⟨rfl, hb4⟩))
          go_ret
          exact ⟨ret_bool (by rw [HN.out]; rfl), below_next (below_next hbw hb3) hb4⟩
        | true =>
          go_wp2_with (first
            | (go_at_call 79; refine hC.mono ?_; rintro e w3 ⟨rfl, hb3⟩; have HO3 := Lib.hid (HOk.out.of_new hb3))
            | ((with_reducible refine wpList_met (o := ⟨some 18, _, _, _, _, _⟩) ?_ ?_); rfl; intro K hK; refine wp_load_msg (g := w.heap.size) (m := m) (s := s) rfl rfl HO3.out (hK _ _ ?_))
            | (go_at_call 80; refine (hF _ hb3).mono ?_; rintro e w4 ⟨rfl, hb4⟩))
          go_roundw
          case rel => exact ⟨k + 1, by omega, by omega, by go_num, by rw [HN.out, HQ.out]; rfl, below_next (below_next hbk hb3) hb4⟩
          case measure => simp [intOf]; omega
      · rw [decide_eq_false hin] at hC
        rw [if_neg hin] at hm
        clear hin hF
        generalize bareB m k = F at *
        have HN := Lib.hid hm
        clear hm
        cases F with
        | false =>
          go_wp2_with (first
            | (go_at_call 79; refine hC.mono ?_; rintro e w3 ⟨rfl, hb3⟩; have HO3 := Lib.hid (HOk.out.of_new hb3))
            | ((with_reducible refine wpList_met (o := ⟨some 27, _, _, _, _, _⟩) ?_ ?_); rfl; intro K hK; refine wp_load_msg (g := w.heap.size) (m := m) (s := s) rfl rfl HO3.out (hK _ _ ?_))
            | (go_at_call 81; refine (hR _ hb3).mono ?_; rintro e w4 ⟨rfl, hb4⟩))
          go_ret
          exact ⟨ret_bool (by rw [HN.out]; rfl), below_next (below_next hbw hb3) hb4⟩
        | true =>
          go_wp2_with (first
            | (go_at_call 79; refine hC.mono ?_; rintro e w3 ⟨rfl, hb3⟩; have HO3 := Lib.hid (HOk.out.of_new hb3))
            | ((with_reducible refine wpList_met (o := ⟨some 27, _, _, _, _, _⟩) ?_ ?_); rfl; intro K hK; refine wp_load_msg (g := w.heap.size) (m := m) (s := s) rfl rfl HO3.out (hK _ _ ?_))
            | (go_at_call 81; refine (hR _ hb3).mono ?_; rintro e w4 ⟨rfl, hb4⟩))
          go_roundw
          case rel => exact ⟨k + 1, by omega, by omega, by go_num, by rw [HN.out, HQ.out]; rfl, below_next (below_next hbk hb3) hb4⟩
          case measure => simp [intOf]; omega
    · obtain rfl : k = 9 := by omega
      rw [rightF_end] at hm
      have HN := Lib.hid hm
      clear hm
      go_wp2
      go_ret
      exact ⟨ret_bool HN.out.symm, below_next hbA hbk⟩

end Go.Proofs.YtnohglkilpnjhaaGreatDoor

/- Strings of bytes compared. No condition. -/
namespace Go.Proofs.YtnohglkilpnjhaaGreatDoor
open Go.RowKit
set_option linter.unusedVariables false

theorem str_eq (x y : List UInt8) : ((ByteArray.mk x.toArray) == (ByteArray.mk y.toArray)) = decide (x = y) := by
  have h : ((ByteArray.mk x.toArray) == (ByteArray.mk y.toArray)) = (x.toArray == y.toArray) := rfl
  rw [h, Bool.eq_iff_iff]
  simp
theorem str_same (x : List UInt8) : ((ByteArray.mk x.toArray) == (ByteArray.mk x.toArray)) = true := by rw [str_eq]; simp

end Go.Proofs.YtnohglkilpnjhaaGreatDoor

/- The table of the hash's constants, as a row lists it: from the row's condition to what the walks ask; a world for the witness. No condition. -/
namespace Go.Proofs.YtnohglkilpnjhaaGreatDoor
open Go.RowKit
set_option linter.unusedVariables false

def shaZ : List Int := [1116352408, 1899447441, 3049323471, 3921009573, 961987163, 1508970993, 2453635748, 2870763221, 3624381080, 310598401, 607225278, 1426881987, 1925078388, 2162078206, 2614888103, 3248222580, 3835390401, 4022224774, 264347078, 604807628, 770255983, 1249150122, 1555081692, 1996064986, 2554220882, 2821834349, 2952996808, 3210313671, 3336571891, 3584528711, 113926993, 338241895, 666307205, 773529912, 1294757372, 1396182291, 1695183700, 1986661051, 2177026350, 2456956037, 2730485921, 2820302411, 3259730800, 3345764771, 3516065817, 3600352804, 4094571909, 275423344, 430227734, 506948616, 659060556, 883997877, 958139571, 1322822218, 1537002063, 1747873779, 1955562222, 2024104815, 2227730452, 2361852424, 2428436474, 2756734187, 3204031479, 3329325298]
theorem gK : Tryz.prog.globalNamed "starling/digest.constants" = some 0 := by kernel_rfl
theorem gKType : (Tryz.prog.globals[0]?).map (·.type) = some 199 := by kernel_rfl
theorem cellsK : Tryz.prog.cellsOf 199 = 64 := by kernel_rfl
theorem cellsK1 : Tryz.prog.cellsOf 151 = 1 := by kernel_rfl
theorem shaZ_at : ∀ j : Fin 64, shaZ.getD j.val 0 = w32 (shaK.getD j.val 0) := by decide

theorem consts_of {W : World} (h : laidMetH Tryz.prog [("starling/digest.constants", Rows.laid_starling_digest_constants)] W) : Consts W := by
  have ht : Lib.TabIs Tryz.prog W "starling/digest.constants" .u32 shaZ := Lib.tabIs_of_head (rest := []) gK gKType Tryz.underlying199 Tryz.underlying151 cellsK1 cellsK h
  intro j hj
  have := ht.cell gK j hj
  rw [this]
  unfold W32
  rw [← shaZ_at ⟨j, hj⟩]

/-- A world for the witness: the settled one, the table holding what its initialiser lays. -/
noncomputable def laidWorld (os : Os) : World :=
  { World.holding Tryz.prog os ⟨#[], #[], []⟩ with heap := (World.holding Tryz.prog os ⟨#[], #[], []⟩).heap.modify 0 fun
      | .cells _ t frozen => .cells #[.int .u32 1116352408, .int .u32 1899447441, .int .u32 3049323471, .int .u32 3921009573, .int .u32 961987163, .int .u32 1508970993, .int .u32 2453635748, .int .u32 2870763221, .int .u32 3624381080, .int .u32 310598401, .int .u32 607225278, .int .u32 1426881987, .int .u32 1925078388, .int .u32 2162078206, .int .u32 2614888103, .int .u32 3248222580, .int .u32 3835390401, .int .u32 4022224774, .int .u32 264347078, .int .u32 604807628, .int .u32 770255983, .int .u32 1249150122, .int .u32 1555081692, .int .u32 1996064986, .int .u32 2554220882, .int .u32 2821834349, .int .u32 2952996808, .int .u32 3210313671, .int .u32 3336571891, .int .u32 3584528711, .int .u32 113926993, .int .u32 338241895, .int .u32 666307205, .int .u32 773529912, .int .u32 1294757372, .int .u32 1396182291, .int .u32 1695183700, .int .u32 1986661051, .int .u32 2177026350, .int .u32 2456956037, .int .u32 2730485921, .int .u32 2820302411, .int .u32 3259730800, .int .u32 3345764771, .int .u32 3516065817, .int .u32 3600352804, .int .u32 4094571909, .int .u32 275423344, .int .u32 430227734, .int .u32 506948616, .int .u32 659060556, .int .u32 883997877, .int .u32 958139571, .int .u32 1322822218, .int .u32 1537002063, .int .u32 1747873779, .int .u32 1955562222, .int .u32 2024104815, .int .u32 2227730452, .int .u32 2361852424, .int .u32 2428436474, .int .u32 2756734187, .int .u32 3204031479, .int .u32 3329325298] t frozen
      | o => o }

end Go.Proofs.YtnohglkilpnjhaaGreatDoor
