/- The walk of the reference's words: a chunk's words. Condition: 64 bytes or more. -/
import Derived.Test.YtnomekfemadpeaaDoorShaRefFew
import Derived.Test.YtnomekfemadpeaaDoorRegion
import Derived.Outline
namespace Go.Proofs.YtnomekfemadpeaaDoor
open Go.RowKit
set_option linter.unusedVariables false

/-- The first t of the sixteen words, and zeros. -/
def fw (b : List UInt8) (t : Nat) : List UInt32 := (List.range t).map (word4 b) ++ List.replicate (64 - t) 0

theorem fw_len (b : List UInt8) (t : Nat) (h : t ≤ 64) : (fw b t).length = 64 := by simp [fw]; omega
theorem fw_next (b : List UInt8) (t : Nat) (h : t < 16) : (fw b t).set t (word4 b t) = fw b (t + 1) := by
  unfold fw
  rw [show 64 - t = (64 - (t + 1)) + 1 from by omega, List.replicate_succ, set_mid _ _ _ _ _ (by simp), List.range_succ, List.map_append, List.append_assoc]
  rfl

theorem word_at (a b c d : UInt8) : ((a.toNat : Int) % 4294967296 * 16777216 + (b.toNat : Int) % 4294967296 * 65536 + (c.toNat : Int) % 4294967296 * 256 + (d.toNat : Int)) % 4294967296 =
    w32 (UInt32.ofNat ((a.toNat * 16777216 + b.toNat * 65536 + c.toNat * 256 + d.toNat) % 4294967296)) := by
  have ha := a.toNat_lt
  have hb := b.toNat_lt
  have hc := c.toNat_lt
  have hd := d.toNat_lt
  rw [w32_nat, UInt32.toNat_ofNat', Nat.mod_mod]
  omega

attribute [local go_sem] w32_add w32_xor w32_shr10 w32_shr3

set_option maxRecDepth 100000 in
set_option maxHeartbeats 1600000 in
theorem words_any (v : Value) (l : List UInt8) (w : World) (hl : Bytes w v l) (h64 : 64 ≤ l.length) :
    Calls Tryd.prog 87 #[v] w fun e w' => e = .returned (.agg ((wordsL l).map W32).toArray) ∧ Below w.heap.size w w' := by
  obtain ⟨b, off, cp, hv, hbl, hc⟩ := hl.cell (by omega)
  subst hv
  have HC := Lib.hid hc
  clear hc hl
  go_enter Tryd.func87, Tryd.ntmps87
  go_wp2
  go_loopw [4] (fun iv wr => ∃ t : Nat, t ≤ 16 ∧ iv = .int .i64 t ∧ Words wr (w.heap.size + 1) 119 (fw l t) ∧ Words wr w.heap.size 119 (List.replicate 64 0) ∧ Below w.heap.size w wr)
    (fun iv _ => 16 - (intOf iv).toNat)
  case atStart => exact ⟨0, by omega, rfl, (words_two w _ _ _ (by rfl)).1, (words_two w _ _ _ (by rfl)).2, ((Below.refl _ w).alloc (Nat.le_refl _) _).alloc (by simp) _⟩
  case round =>
    obtain ⟨t, ht, rfl, hW, hR, hb⟩ := hrel
    by_cases hlt : t < 16
    · have c0 := (hb.cell (p := ⟨b, off + 4 * t, none⟩) hbl).trans (HC.out (4 * t) (by omega))
      have c1 := (hb.cell (p := ⟨b, off + (4 * t + 1), none⟩) hbl).trans (HC.out (4 * t + 1) (by omega))
      have c2 := (hb.cell (p := ⟨b, off + (4 * t + 2), none⟩) hbl).trans (HC.out (4 * t + 2) (by omega))
      have c3 := (hb.cell (p := ⟨b, off + (4 * t + 3), none⟩) hbl).trans (HC.out (4 * t + 3) (by omega))
      have hx : word4 l t = UInt32.ofNat (((l.getD (4 * t) 0).toNat * 16777216 + (l.getD (4 * t + 1) 0).toNat * 65536 + (l.getD (4 * t + 2) 0).toNat * 256 + (l.getD (4 * t + 3) 0).toNat) % 4294967296) := rfl
      obtain ⟨b0, e0⟩ : ∃ x, x = l.getD (4 * t) 0 := ⟨_, rfl⟩
      obtain ⟨b1, e1⟩ : ∃ x, x = l.getD (4 * t + 1) 0 := ⟨_, rfl⟩
      obtain ⟨b2, e2⟩ : ∃ x, x = l.getD (4 * t + 2) 0 := ⟨_, rfl⟩
      obtain ⟨b3, e3⟩ : ∃ x, x = l.getD (4 * t + 3) 0 := ⟨_, rfl⟩
      rw [← e0, ← e1, ← e2, ← e3] at hx
      rw [← e0] at c0
      rw [← e1] at c1
      rw [← e2] at c2
      rw [← e3] at c3
      unfold B8 at c0 c1 c2 c3
      have hwk := hW.cell (j := t) (by rw [fw_len _ _ (by omega)]; omega)
      have hfk := hW.free t
      have HX := Lib.hid hx
      have HW := Lib.hid hW
      have HR := Lib.hid hR
      clear hx e0 e1 e2 e3 hW hR
      go_wp2
      go_region
      all_goals go_wp2
      go_roundw
      case rel =>
        rw [word_at, ← HX.out]
        refine ⟨t + 1, by omega, by go_num, ?_, ?_, (hb.setCell (p := ⟨w.heap.size + 1, t, none⟩) (by simp) _).drew⟩
        · rw [← fw_next l t hlt]
          exact (HW.out.set t _).drew
        · exact (HR.out.of_block (Below.heap_setCell _ _ _ _ (by simp))).drew
      case measure => simp [intOf]; omega
    · obtain rfl : t = 16 := by omega
      have hfw : fw l 16 = wordsTo l 0 ++ List.replicate 48 0 := rfl
      rw [hfw] at hW
      clear hfw
      have hbA := hb
      have hszA := hb.size
      clear hb
      rw [show ((16 : Nat) : Int) = 16 from rfl]
      go_wp2
      go_loopw [5] (fun iv wx => ∃ t : Nat, 16 ≤ t ∧ t ≤ 64 ∧ iv = .int .i64 t ∧ Words wx (w.heap.size + 1) 119 (wordsTo l (t - 16) ++ List.replicate (64 - t) 0) ∧ Words wx w.heap.size 119 (List.replicate 64 0) ∧ Below w.heap.size w wx)
        (fun iv _ => 64 - (intOf iv).toNat)
      case atStart => exact ⟨16, by omega, by omega, rfl, hW, hR, hbA⟩
      case round =>
        clear hW hR hbA
        obtain ⟨t, ht16, ht, rfl, hW, hR, hb⟩ := hrel
        have hlen : (wordsTo l (t - 16) ++ List.replicate (64 - t) 0).length = 64 := by rw [List.length_append, wordsTo_len, List.length_replicate]; omega
        by_cases hlt : t < 64
        · have hg : ∀ j, j < t → (wordsTo l (t - 16) ++ List.replicate (64 - t) 0).getD j 0 = (wordsTo l (t - 16)).getD j 0 := by
            intro j hj
            simp only [List.getD_eq_getElem?_getD]
            rw [List.getElem?_append_left (by rw [wordsTo_len]; omega)]
          have h2 := hW.cell (j := t - 2) (by omega)
          have h15 := hW.cell (j := t - 15) (by omega)
          have h16 := hW.cell (j := t - 16) (by omega)
          have h7 := hW.cell (j := t - 7) (by omega)
          have hfr := hW.free t
          have ht1 := hW.cell (j := t) (by omega)
          rw [hg _ (by omega)] at h2 h15 h16 h7
          unfold W32 at h2 h15 h16 h7 ht1
          obtain ⟨x2, e2⟩ : ∃ x, x = (wordsTo l (t - 16)).getD (t - 2) 0 := ⟨_, rfl⟩
          obtain ⟨x15, e15⟩ : ∃ x, x = (wordsTo l (t - 16)).getD (t - 15) 0 := ⟨_, rfl⟩
          obtain ⟨x16, e16⟩ : ∃ x, x = (wordsTo l (t - 16)).getD (t - 16) 0 := ⟨_, rfl⟩
          obtain ⟨x7, e7⟩ : ∃ x, x = (wordsTo l (t - 16)).getD (t - 7) 0 := ⟨_, rfl⟩
          rw [← e2] at h2
          rw [← e15] at h15
          rw [← e16] at h16
          rw [← e7] at h7
          have E2 := Lib.hid e2
          have E15 := Lib.hid e15
          have E16 := Lib.hid e16
          have E7 := Lib.hid e7
          have HW := Lib.hid hW
          have HR := Lib.hid hR
          have HG := Lib.hid hlen
          clear e2 e15 e16 e7 hW hR hlen hg
          have i2 : (0 : Int) ≤ (t : Int) - 2 := by omega
          have j2 : (t : Int) - 2 < 64 := by omega
          have i15 : (0 : Int) ≤ (t : Int) - 15 := by omega
          have j15 : (t : Int) - 15 < 64 := by omega
          have i16 : (0 : Int) ≤ (t : Int) - 16 := by omega
          have j16 : (t : Int) - 16 < 64 := by omega
          have i7 : (0 : Int) ≤ (t : Int) - 7 := by omega
          have j7 : (t : Int) - 7 < 64 := by omega
          have jt : (t : Int) < 64 := by omega
          go_wp2
          have q16 : IntKind.i64.wrap ((t : Int) - 16) = (t : Int) - 16 := IntWalk.i64_in _ (by omega)
          have q7 : IntKind.i64.wrap ((t : Int) - 7) = (t : Int) - 7 := IntWalk.i64_in _ (by omega)
          have n16 : ((t : Int) - 16).toNat = t - 16 := by omega
          have n7 : ((t : Int) - 7).toNat = t - 7 := by omega
          have nt : (0 : Int) ≤ (t : Int) := by omega
          refine wp_region_class (C := fun w' => ∃ n, w' = wr.drewN n) 29 (by kernel_rfl) (by kernel_rfl) ⟨1, rfl⟩ ?_
          simp only [List.take_succ_cons, List.take_zero, List.drop_succ_cons, List.drop_zero]
          repeat (go_big_quiet_step (((go_at_call 89; exact same_quiet (turned_any _ _ _ (by decide) (by decide))))))
          refine wpQuiet_nil ?_
          intro _ hw'
          obtain ⟨nq, hw''⟩ := hw'
          subst hw''
          go_wp2
          clear q16 q7 n16 n7 nt
          go_roundw
          case rel =>
            refine ⟨t + 1, by omega, by omega, by go_num, ?_, ?_, Below.trans hb ((below_drewn _).setCell (p := ⟨w.heap.size + 1, t, none⟩) (by show w.heap.size ≤ w.heap.size + 1; omega) _)⟩
            · rw [← set_next l t ht16 hlt, nextW_at l t ht16, ← E2.out, ← E15.out, ← E16.out, ← E7.out, UInt32.add_assoc _ (sg1 x2), UInt32.add_comm (sg1 x2), ← UInt32.add_assoc _ (sg0 x15)]
              exact HW.out.set t _
            · exact HR.out.of_block (Below.heap_setCell _ _ _ _ (by simp))
          case measure => simp [intOf]; omega
        · obtain rfl : t = 64 := by omega
          have hW' : Words wr (w.heap.size + 1) 119 (wordsL l) := by simpa [wordsL] using hW
          have hl48 : (wordsL l).length = 64 := wordsTo_len l 48
          clear hW
          go_wp2_with (first | (refine wpList_load_row rfl 119 _ rfl (w.heap.size + 1) rfl _ _ _ _ hW' Tryd.underlying119 rfl ?hi ?_; (case hi => rw [info_64]; simp [hl48])) | (refine wpList_store_row rfl 119 _ _ rfl w.heap.size 119 _ _ rfl rfl hR ?hj ?hk (words_one _) ?_; (case hj => rw [info_64]; simp [hl48]); (case hk => simp [hl48])))
          refine bodyPost_ret (results_cell rfl _ rfl (run_loadVar_row _ _ 119 _ ((wordsL l).map W32).toArray (0, 0) _ (setRow_heap _ _ _ _ _ _ hR) Tryd.underlying119 rfl (by rw [info_64]; simp [hl48]))) rfl ⟨rfl, ?_⟩
          exact hb.trans (below_setRow' _ _ _ (Nat.le_refl _))

end Go.Proofs.YtnomekfemadpeaaDoor
