/- The walk of the law DigestTexts: it answers true. Condition: the table of constants as the program lays it. -/
import Derived.Test.YtakdbhehacbokaaDoorShaRefParse
import Derived.Test.YtakdbhehacbokaaDoorShaLawOwn
namespace Go.Proofs.YtakdbhehacbokaaDoor
open Go.RowKit
set_option linter.unusedVariables false

theorem parseL_len (l : List UInt8) : (parseL l).length = 32 := by
  unfold parseL; split
  · exact laidN_len _ _
  · simp
theorem str_list (s : ByteArray) (h : s.size ≤ maxLen) : ∃ l : List UInt8, s = ⟨l.toArray⟩ ∧ l.length ≤ 9223372036854775807 := by
  refine ⟨s.data.toList, by rcases s with ⟨⟨x⟩⟩; rfl, ?_⟩
  have e : s.data.toList.length = s.size := by show s.data.toList.length = s.data.size; exact Array.length_toList
  unfold maxLen at h
  omega

set_option maxRecDepth 100000 in
set_option maxHeartbeats 1600000 in
theorem DigestTexts_walk (d : List UInt8) (s : ByteArray) (w : World) (hd : d.length = 32) (hs : s.size ≤ maxLen) (hK : Consts w) :
    Calls Tryd.prog 10 #[.agg (d.map B8).toArray, .string s] w fun e w' => e = .returned (.bool true) ∧ Below w.heap.size w w' := by
  obtain ⟨l, rfl, hl⟩ := str_list s hs
  have hsz : (⟨l.toArray⟩ : ByteArray).size = l.length := by show l.toArray.size = _; simp
  obtain ⟨s, es⟩ : ∃ s : ByteArray, s = ⟨l.toArray⟩ := ⟨_, rfl⟩
  rw [← es] at hsz hs ⊢
  have ES := Lib.hid es
  have HD := Lib.hid hd
  have HP := Lib.hid (parseL_len l)
  have heq := run_eql_dig_same (parseL l) (parseL_len l)
  have hgd := guard_dig
  clear es hd
  unfold maxLen at hs
  go_enter Tryd.func10, Tryd.ntmps10
  go_wp2_with fail
  generalize hW1 : w.alloc _ = W1
  obtain ⟨hR, hb, hz⟩ : Octs W1 w.heap.size 25 d ∧ Below w.heap.size w W1 ∧ w.heap.size + 1 = W1.heap.size := by
    subst hW1
    exact ⟨heap_alloc_new w _, (Below.refl _ w).alloc (Nat.le_refl _) _, by simp⟩
  clear hW1
  refine (awake_any _ (hK.of_new hb)).mono ?_
  rintro e w1 ⟨rfl, hb1⟩
  have hR1 := hR.of_block (hb1.block _ (by omega))
  have hbA := below_next hb hb1
  have hz1 : w.heap.size < w1.heap.size := by have := hb1.size; omega
  clear hR hb hb1 hz
  by_cases h5 : s.size ≤ 10000
  case neg =>
    have t0 : (10000 : Int) < (s.size : Int) := by omega
    go_wp2
    go_ret
    exact ⟨rfl, hbA⟩
  have t0 : ¬ (10000 : Int) < (s.size : Int) := by omega
  go_wp2_with fail
  refine (ES.out ▸ Parse_any l w1 hl).mono ?_
  rintro e w2 ⟨rfl, hb2⟩
  have hR2 := hR1.of_block (hb2.block _ hz1)
  have hbB := below_next hbA hb2
  have hz2 : w.heap.size < w2.heap.size := by have := hb2.size; omega
  clear hR1 hbA hb2 hz1
  go_wp2_with ((with_reducible refine wpList_store_octs (op := ⟨none, Op.store 25 (.tmp 6) (.tmp 18), _, _, _, _⟩) 25 (.tmp 6) (.tmp 18) w2.heap.size 25 (List.replicate 32 (0 : UInt8)) (parseL l) ?g ?ho ?hx ?hy ?hh ?hi ?hs ?_); (case g => rfl); (case ho => rfl); (case hx => rfl); (case hy => rfl); (case hh => exact heap_alloc_new w2 _); (case hi => rw [HP.out]; kernel_rfl); (case hs => rw [HP.out]; rfl))
  generalize hW3 : World.setRow _ _ _ = w3
  obtain ⟨hx3, hb3, hz3⟩ : Octs w3 w2.heap.size 25 (parseL l) ∧ Below w2.heap.size w2 w3 ∧ w2.heap.size + 1 = w3.heap.size := by
    subst hW3; exact dig_laid w2 _ _
  have hR3 := hR2.of_block (hb3.block _ hz2)
  have hbC := below_next hbB hb3
  obtain ⟨g1, hg1⟩ : ∃ g, g = w2.heap.size := ⟨_, rfl⟩
  rw [← hg1] at hx3 hz3 hz2 ⊢
  clear hR2 hbB hb3 hW3 hg1
  refine (ES.out ▸ RParse_any l w3 hl).mono ?_
  rintro e w4 ⟨rfl, hb4⟩
  have hR4 := hR3.of_block (hb4.block _ (by omega))
  have hx4 := hx3.of_block (hb4.block _ (by omega))
  have hbD := below_next hbC hb4
  have hz4 : g1 < w4.heap.size := by have := hb4.size; omega
  clear hR3 hx3 hbC hb4 hz3
  go_wp2_with ((with_reducible refine wpList_store_octs (op := ⟨none, Op.store 25 (.tmp 8) (.tmp 23), _, _, _, _⟩) 25 (.tmp 8) (.tmp 23) w4.heap.size 25 (List.replicate 32 (0 : UInt8)) (parseL l) ?g ?ho ?hx ?hy ?hh ?hi ?hs ?_); (case g => rfl); (case ho => rfl); (case hx => rfl); (case hy => rfl); (case hh => exact heap_alloc_new w4 _); (case hi => rw [HP.out]; kernel_rfl); (case hs => rw [HP.out]; rfl))
  generalize hW5 : World.setRow _ _ _ = w5
  obtain ⟨hy5, hb5, hz5⟩ : Octs w5 w4.heap.size 25 (parseL l) ∧ Below w4.heap.size w4 w5 ∧ w4.heap.size + 1 = w5.heap.size := by
    subst hW5; exact dig_laid w4 _ _
  have hR5 := Lib.hid (hR4.of_block (hb5.block _ (by omega)))
  have hx5 := Lib.hid (hx4.of_block (hb5.block _ hz4))
  have hy5 := Lib.hid hy5
  have hbE := Lib.hid (below_next hbD hb5)
  obtain ⟨g2, hg2⟩ : ∃ g, g = w4.heap.size := ⟨_, rfl⟩
  rw [← hg2] at hy5 ⊢
  clear hR4 hx4 hbD hb5 hW5 hg2 hz5
  refine wp_region_grew (by kernel_rfl) (by kernel_rfl) ?_
  (go_big_quiet_want; apply quiet_val; (intro w' hw'; go_simp; first | done | rfl); go_simp; go_big_quiet_on)
  (go_big_quiet_want; apply quiet_val; (intro w' hw'; go_simp; first | done | rfl); go_simp; go_big_quiet_on)
  (go_big_quiet_want; (with_reducible refine quiet_load_octs 25 (.tmp 2) (w.heap.size) 25 32 5 d ?_ ?_ ?_ ?_ ?_ ?_); rfl; rfl; exact hR5.out; exact Tryd.underlying25; (rw [HD.out]; kernel_rfl); go_simp; go_big_quiet_on)
  (go_big_quiet_want; apply quiet_call (f := 25); (intro w' hw'; go_simp; first | done | rfl); (intro w' hw'; exact Grew.call hw' (Text_any d w' HD.out)); go_simp; go_big_quiet_on)
  (go_big_quiet_want; (with_reducible refine quiet_load_octs 25 (.tmp 2) (w.heap.size) 25 32 5 d ?_ ?_ ?_ ?_ ?_ ?_); rfl; rfl; exact hR5.out; exact Tryd.underlying25; (rw [HD.out]; kernel_rfl); go_simp; go_big_quiet_on)
  (go_big_quiet_want; apply quiet_call (f := 26); (intro w' hw'; go_simp; first | done | rfl); (intro w' hw'; exact Grew.call hw' (RText_any d w' HD.out)); go_simp; go_big_quiet_on)
  (go_big_quiet_want; apply quiet_val; (intro w' hw'; go_simp; first | done | rfl); go_simp; go_big_quiet_on)
  (go_big_quiet_want; apply quiet_val; (intro w' hw'; go_simp; first | done | rfl); go_simp; go_big_quiet_on)
  (go_big_quiet_want; apply quiet_val; (intro w' hw'; go_simp; first | done | rfl); go_simp; go_big_quiet_on)
  (go_big_quiet_want; (with_reducible refine quiet_load_octs 25 (.tmp 6) (g1) 25 32 5 (parseL l) ?_ ?_ ?_ ?_ ?_ ?_); rfl; rfl; exact hx5.out; exact Tryd.underlying25; (rw [HP.out]; kernel_rfl); go_simp; go_big_quiet_on)
  (go_big_quiet_want; (with_reducible refine quiet_load_octs 25 (.tmp 8) (g2) 25 32 5 (parseL l) ?_ ?_ ?_ ?_ ?_ ?_); rfl; rfl; exact hy5.out; exact Tryd.underlying25; (rw [HP.out]; kernel_rfl); go_simp; go_big_quiet_on)
  (go_big_quiet_want; apply quiet_val; (intro w' hw'; go_simp; first | done | rfl); go_simp; go_big_quiet_on)
  (go_big_quiet_want; apply quiet_val; (intro w' hw'; go_simp; first | done | rfl); go_simp; go_big_quiet_on)
  (go_big_quiet_want; apply quiet_val; (intro w' hw'; go_simp; first | done | rfl); go_simp; go_big_quiet_on)
  (go_big_quiet_want; apply quiet_val; (intro w' hw'; go_simp; first | done | rfl); go_simp; go_big_quiet_on)
  (go_big_quiet_want; apply quiet_val; (intro w' hw'; go_simp; first | done | rfl); go_simp; go_big_quiet_on)
  (go_big_quiet_want; apply quiet_val; (intro w' hw'; go_simp; first | done | rfl); go_simp; go_big_quiet_on)
  (go_big_quiet_want; apply quiet_val; (intro w' hw'; go_simp; first | done | rfl); go_simp; go_big_quiet_on)
  (go_big_quiet_want; apply quiet_val; (intro w' hw'; go_simp; first | done | rfl); go_simp; go_big_quiet_on)
  refine wpQuiet_nil ?_
  intro w9 hw9
  go_wp2
  go_ret
  exact ⟨rfl, below_next hbE.out hw9⟩

end Go.Proofs.YtakdbhehacbokaaDoor
