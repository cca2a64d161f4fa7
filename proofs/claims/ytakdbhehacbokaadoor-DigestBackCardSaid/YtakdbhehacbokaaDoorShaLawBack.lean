/- The walk of the law DigestBack: it answers true. Condition: the table of constants as the program lays it. -/
import Derived.Test.YtakdbhehacbokaaDoorShaLawTexts
import Derived.Test.YtakdbhehacbokaaDoorShaLawOrder
namespace Go.Proofs.YtakdbhehacbokaaDoor
open Go.RowKit
set_option linter.unusedVariables false

theorem str_size (l : List UInt8) : (⟨l.toArray⟩ : ByteArray).size = l.length := by show l.toArray.size = _; simp
/-- How two texts stand, by their hashes. -/
theorem text_cases (a b : List UInt8) (h : a.length = b.length) :
    (cmpL a b = -1 ∧ Op.bytesLess (textL a) (textL b) = true ∧ (textL a == textL b) = false) ∨ (cmpL a b = 0 ∧ Op.bytesLess (textL a) (textL b) = false ∧ (textL a == textL b) = true) ∨ (cmpL a b = 1 ∧ Op.bytesLess (textL a) (textL b) = false ∧ (textL a == textL b) = false) := by
  have h1 := bytesLess_cmp (textL a) (textL b)
  rw [cmpL_text a b h] at h1
  have hne : ∀ x y : List UInt8, x.length = y.length → cmpL x y ≠ 0 → (x == y) = false := fun x y hl hn => by
    have := cmpL_zero x y hl
    have e : (x == y) = decide (x = y) := by rw [Bool.eq_iff_iff]; simp
    rw [e, this]; simpa using hn
  have hl : (textL a).length = (textL b).length := by rw [textL_len, textL_len, h]
  have ht := cmpL_text a b h
  have hs := cmpL_sign a b h
  by_cases p1 : natL a < natL b
  · rw [if_pos p1] at hs
    exact .inl ⟨hs, by rw [h1, hs]; rfl, hne _ _ hl (by rw [ht, hs]; decide)⟩
  · by_cases p2 : natL b < natL a
    · rw [if_neg p1, if_pos p2] at hs
      exact .inr (.inr ⟨hs, by rw [h1, hs]; rfl, hne _ _ hl (by rw [ht, hs]; decide)⟩)
    · rw [if_neg p1, if_neg p2] at hs
      have e := natL_inj a b h (by omega)
      subst e
      exact .inr (.inl ⟨hs, by rw [h1, hs]; rfl, by simp⟩)

set_option maxRecDepth 100000 in
set_option maxHeartbeats 3200000 in
theorem DigestBack_walk (a b : List UInt8) (w : World) (ha : a.length = 32) (hb : b.length = 32) (hK : Consts w) :
    Calls Tryd.prog 11 #[.agg (a.map B8).toArray, .agg (b.map B8).toArray] w fun e w' => e = .returned (.bool true) ∧ Below w.heap.size w w' := by
  have HA := Lib.hid ha
  have HB := Lib.hid hb
  have hcs := text_cases a b (by omega)
  have hpt := parse_text a ha
  have HPT := Lib.hid hpt
  have hts : (⟨(textL a).toArray⟩ : ByteArray).size = 64 := by rw [str_size, textL_len, ha]
  have heq := run_eql_dig_same a ha
  have hgd := guard_dig
  have HL := Lib.hid (show (textL a).length ≤ 9223372036854775807 by rw [textL_len, ha]; decide)
  clear ha hb hpt
  obtain ⟨x, hx⟩ : ∃ x, x = cmpL a b := ⟨_, rfl⟩
  rw [← hx] at hcs
  have HX := Lib.hid hx
  clear hx
  go_enter Tryd.func11, Tryd.ntmps11
  go_wp2_with fail
  generalize hW1 : (w.alloc _).alloc _ = W1
  obtain ⟨hA, hB, hb1, hz1⟩ : Octs W1 w.heap.size 25 a ∧ Octs W1 (w.heap.size + 1) 25 b ∧ Below w.heap.size w W1 ∧ w.heap.size + 2 = W1.heap.size := by
    subst hW1; exact octs_pair w _ a b _ _ rfl rfl
  clear hW1
  refine (awake_any W1 (hK.of_new hb1)).mono ?_
  rintro e w1 ⟨rfl, hb2⟩
  have hA1 := hA.of_block (hb2.block _ (by omega))
  have hB1 := hB.of_block (hb2.block _ (by omega))
  have hbA := below_next hb1 hb2
  have hz1' : w.heap.size + 2 ≤ w1.heap.size := by have := hb2.size; omega
  clear hA hB hb1 hb2 hz1
  go_upto_region 2 with (fail)
  refine wp_region_grew_seq ?_
  (go_big_quiet_want; (with_reducible refine quiet_load_octs 25 (.tmp 2) (w.heap.size) 25 32 5 a ?_ ?_ ?_ ?_ ?_ ?_); rfl; rfl; exact hA1; exact Tryd.underlying25; (rw [HA.out]; kernel_rfl); go_simp; go_big_quiet_on)
  (go_big_quiet_want; apply quiet_call (f := 25); (intro w' hw'; go_simp; first | done | rfl); (intro w' hw'; exact Grew.call hw' (Text_any a w' HA.out)); go_simp; go_big_quiet_on)
  (go_big_quiet_want; apply quiet_val; (intro w' hw'; go_simp; first | done | rfl); go_simp; go_big_quiet_on)
  refine wpQuiet_nil ?_
  intro w2 hw2
  have hA2 := hw2.octs hA1
  have hB2 := hw2.octs hB1
  have hbB := below_next hbA hw2
  have hz2 : w.heap.size + 2 ≤ w2.heap.size := by have := Below.size hw2; omega
  clear hA1 hB1 hbA hw2 hz1'
  go_upto_region 3 with (fail)
  refine wp_region_grew_seq ?_
  (go_big_quiet_want; (with_reducible refine quiet_load_octs 25 (.tmp 3) (w.heap.size + 1) 25 32 5 b ?_ ?_ ?_ ?_ ?_ ?_); rfl; rfl; exact hB2; exact Tryd.underlying25; (rw [HB.out]; kernel_rfl); go_simp; go_big_quiet_on)
  (go_big_quiet_want; apply quiet_call (f := 25); (intro w' hw'; go_simp; first | done | rfl); (intro w' hw'; exact Grew.call hw' (Text_any b w' HB.out)); go_simp; go_big_quiet_on)
  (go_big_quiet_want; apply quiet_val; (intro w' hw'; go_simp; first | done | rfl); go_simp; go_big_quiet_on)
  refine wpQuiet_nil ?_
  intro w3 hw3
  have hA3 := hw3.octs hA2
  have hB3 := hw3.octs hB2
  have hbC := below_next hbB hw3
  have hz3 : w.heap.size + 2 ≤ w3.heap.size := by have := Below.size hw3; omega
  clear hA2 hB2 hbB hw3 hz2
  go_wp2_with fail
  refine (Parse_any (textL a) w3 HL.out).mono ?_
  rintro e w4 ⟨rfl, hb4⟩
  rw [HPT.out.1, HPT.out.2]
  have hA4 := hA3.of_block (hb4.block _ (by omega))
  have hB4 := hB3.of_block (hb4.block _ (by omega))
  have hbD := below_next hbC hb4
  have hz4 : w.heap.size + 2 ≤ w4.heap.size := by have := hb4.size; omega
  clear hA3 hB3 hbC hb4 hz3
  rcases hcs with ⟨rfl, h1, h2⟩ | ⟨rfl, h1, h2⟩ | ⟨rfl, h1, h2⟩
  all_goals
    go_upto_region 10 with ((with_reducible refine wpList_store_octs (op := ⟨none, Op.store 25 (.tmp 8) (.tmp 19), _, _, _, _⟩) 25 (.tmp 8) (.tmp 19) w4.heap.size 25 (List.replicate 32 (0 : UInt8)) (a) ?g ?ho ?hx ?hy ?hh ?hi ?hs ?_); (case g => rfl); (case ho => rfl); (case hx => rfl); (case hy => rfl); (case hh => exact heap_alloc_new w4 _); (case hi => rw [HA.out]; kernel_rfl); (case hs => rw [HA.out]; rfl))
    generalize hW5 : World.setRow _ _ _ = w5
    obtain ⟨hx5, hb5, hz5⟩ : Octs w5 w4.heap.size 25 a ∧ Below w4.heap.size w4 w5 ∧ w4.heap.size + 1 = w5.heap.size := by
      subst hW5; exact dig_laid w4 _ _
    have hA5 := Lib.hid (hA4.of_block (hb5.block _ (by omega)))
    have hB5 := Lib.hid (hB4.of_block (hb5.block _ (by omega)))
    have hx5 := Lib.hid hx5
    have hbE := Lib.hid (below_next hbD hb5)
    obtain ⟨g1, hg1⟩ : ∃ g, g = w4.heap.size := ⟨_, rfl⟩
    rw [← hg1] at hx5 ⊢
    clear hA4 hB4 hbD hb5 hW5 hg1 hz5
    refine wp_region_grew_seq ?_
    (go_big_quiet_want; apply quiet_val; (intro w' hw'; go_simp; first | done | rfl); go_simp; go_big_quiet_on)
    (go_big_quiet_want; apply quiet_val; (intro w' hw'; go_simp; first | done | rfl); go_simp; go_big_quiet_on)
    (go_big_quiet_want; apply quiet_val; (intro w' hw'; go_simp; first | done | rfl); go_simp; go_big_quiet_on)
    (go_big_quiet_want; apply quiet_val; (intro w' hw'; go_simp; first | done | rfl); go_simp; go_big_quiet_on)
    (go_big_quiet_want; apply quiet_val; (intro w' hw'; go_simp; first | done | rfl); go_simp; go_big_quiet_on)
    (go_big_quiet_want; apply quiet_val; (intro w' hw'; go_simp; first | done | rfl); go_simp; go_big_quiet_on)
    (go_big_quiet_want; (with_reducible refine quiet_load_octs 25 (.tmp 8) (g1) 25 32 5 a ?_ ?_ ?_ ?_ ?_ ?_); rfl; rfl; exact hx5.out; exact Tryd.underlying25; (rw [HA.out]; kernel_rfl); go_simp; go_big_quiet_on)
    (go_big_quiet_want; (with_reducible refine quiet_load_octs 25 (.tmp 2) (w.heap.size) 25 32 5 a ?_ ?_ ?_ ?_ ?_ ?_); rfl; rfl; exact hA5.out; exact Tryd.underlying25; (rw [HA.out]; kernel_rfl); go_simp; go_big_quiet_on)
    (go_big_quiet_want; apply quiet_val; (intro w' hw'; go_simp; first | done | rfl); go_simp; go_big_quiet_on)
    (go_big_quiet_want; apply quiet_val; (intro w' hw'; go_simp; first | done | rfl); go_simp; go_big_quiet_on)
    (go_big_quiet_want; apply quiet_val; (intro w' hw'; go_simp; first | done | rfl); go_simp; go_big_quiet_on)
    (go_big_quiet_want; apply quiet_val; (intro w' hw'; go_simp; first | done | rfl); go_simp; go_big_quiet_on)
    (go_big_quiet_want; apply quiet_val; (intro w' hw'; go_simp; first | done | rfl); go_simp; go_big_quiet_on)
    (go_big_quiet_want; apply quiet_val; (intro w' hw'; go_simp; first | done | rfl); go_simp; go_big_quiet_on)
    (go_big_quiet_want; apply quiet_val; (intro w' hw'; go_simp; first | done | rfl); go_simp; go_big_quiet_on)
    (go_big_quiet_want; apply quiet_val; (intro w' hw'; go_simp; first | done | rfl); go_simp; go_big_quiet_on)
    (go_big_quiet_want; (with_reducible refine quiet_load_octs 25 (.tmp 2) (w.heap.size) 25 32 5 a ?_ ?_ ?_ ?_ ?_ ?_); rfl; rfl; exact hA5.out; exact Tryd.underlying25; (rw [HA.out]; kernel_rfl); go_simp; go_big_quiet_on)
    (go_big_quiet_want; (with_reducible refine quiet_load_octs 25 (.tmp 3) (w.heap.size + 1) 25 32 5 b ?_ ?_ ?_ ?_ ?_ ?_); rfl; rfl; exact hB5.out; exact Tryd.underlying25; (rw [HB.out]; kernel_rfl); go_simp; go_big_quiet_on)
    (go_big_quiet_want; apply quiet_call (f := 15); (intro w' hw'; go_simp; first | done | rfl); (intro w' hw'; exact Grew.call hw' (HX.out ▸ Compare_any a b w' HA.out HB.out)); go_simp; go_big_quiet_on)
    (go_big_quiet_want; apply quiet_val; (intro w' hw'; go_simp; first | done | rfl); go_simp; go_big_quiet_on)
    (go_big_quiet_want; apply quiet_val; (intro w' hw'; go_simp; first | done | rfl); go_simp; go_big_quiet_on)
    (go_big_quiet_want; apply quiet_val; (intro w' hw'; go_simp; first | done | rfl); go_simp; go_big_quiet_on)
    (go_big_quiet_want; apply quiet_val; (intro w' hw'; go_simp; first | done | rfl); go_simp; go_big_quiet_on)
    refine wpQuiet_nil ?_
    intro w9 hw9
    go_wp2
    go_ret
    exact ⟨rfl, below_next hbE.out hw9⟩

end Go.Proofs.YtakdbhehacbokaaDoor
