/- The walk of the law DigestOwn: it answers true. Condition: the table of constants as the program lays it. -/
import Derived.Test.YtakdbhehacbokaaDoorShaLawTags
import Derived.Test.YtakdbhehacbokaaDoorQuiet
import Derived.Deep.DeepCutAuto
namespace Go.Proofs.YtakdbhehacbokaaDoor
open Go.RowKit
set_option linter.unusedVariables false

theorem own_empty (w : World) : Own8 (w.alloc (.cells #[] 5)) w.heap.size 5 (.slice (some ⟨w.heap.size, 0, none⟩) 0 0) [] := World.ownsRow_made w #[] 0 (Nat.le_refl _) (by unfold maxLen; omega) rfl
theorem dig_laid (w : World) (A : Array Value) (bs : List UInt8) : Octs ((w.alloc (.cells A 25)).setRow w.heap.size (bs.map B8).toArray) w.heap.size 25 bs ∧ Below w.heap.size w ((w.alloc (.cells A 25)).setRow w.heap.size (bs.map B8).toArray) ∧ w.heap.size + 1 = ((w.alloc (.cells A 25)).setRow w.heap.size (bs.map B8).toArray).heap.size :=
  ⟨octs_laid w _ A bs, ((Below.refl _ w).alloc (Nat.le_refl _) _).trans (below_setRow' _ _ _ (Nat.le_refl _)), by simp⟩

set_option maxRecDepth 100000 in
set_option maxHeartbeats 1600000 in
theorem DigestOwn_walk (v : Value) (l : List UInt8) (vp : Value) (ps : List (List UInt8)) (w : World) (hl : Bytes w v l) (hp : PartsV w vp ps) (hK : Consts w) :
    Calls Tryd.prog 7 #[v, vp] w fun e w' => e = .returned (.bool true) ∧ Below w.heap.size w w' := by
  obtain ⟨i0, hi, hz0, hz1, hz2⟩ := info_parts infoU8
  have hle := hl.le
  obtain ⟨a, cp, hv⟩ := hl.len
  subst hv
  obtain ⟨va, vc, hv⟩ := hp.len
  subst hv
  have HL := Lib.hid hl
  have HP := Lib.hid hp
  clear hl hp
  have heq1 := run_eql_dig_same (sumL l) (sumL_len _)
  have heq2 := run_eql_dig_same (sumL (partsL 3 ps)) (sumL_len _)
  have hgd := guard_dig
  have D1 := Lib.hid (sumL_len l)
  have D2 := Lib.hid (sumL_len (partsL 3 ps))
  go_enter Tryd.func7, Tryd.ntmps7
  go_wp2_with fail
  refine (awake_any w hK).mono ?_
  rintro e w1 ⟨rfl, hb1⟩
  go_wp2_with fail
  refine (few_any _ ps _ (HP.out.of_new hb1)).mono ?_
  rintro e w2 ⟨rfl, rfl⟩
  rcases hf : fewB ps with _ | _
  · go_wp2
    go_ret
    exact ⟨rfl, hb1⟩
  by_cases h5 : l.length ≤ 5000
  case neg =>
    have t0 : (5000 : Int) < (l.length : Int) := by omega
    go_wp2
    go_ret
    exact ⟨rfl, hb1⟩
  have t0 : ¬ (5000 : Int) < (l.length : Int) := by omega
  obtain ⟨h40, hm⟩ := fewB_bounds hf
  have HM := Lib.hid (few_large hm)
  have HB := Lib.hid hb1
  have HL1 := fun o => Lib.hid ((HL.out.of_new HB.out).of_alloc o)
  clear hm hf hb1
  go_wp2_with (at_builtin; refine wpList_app8 rfl (.tmp 26) (.tmp 27) 22 rfl w1.heap.size 5 i0 Tryd.underlying22 hi hz0 hz1 hz2 _ [] rfl (own_empty w1) _ l rfl (HL1 _).out ?c1 ?c2 ?_)
  case c1 => first | omega | (simp; omega)
  case c2 => simp
  intro v2 w2 ho2 hg2 _
  have hb2 : Below w1.heap.size w1 w2 := ((Below.refl _ w1).alloc (Nat.le_refl _) _).grown hg2 (by simp) (fun j hj => by cases hj; exact Nat.le_refl _)
  have HB2 := Lib.hid (below_next HB.out hb2)
  have HO := Lib.hid ho2.bytes
  obtain ⟨x2, y2, e2⟩ := ho2.bytes.len
  subst e2
  clear ho2 hg2 hb2 HL1
  go_wp2_with fail
  refine (Sum_any _ l _ (HL.out.of_new HB2.out) (by omega) (hK.of_new HB2.out)).mono ?_
  rintro e w3 ⟨rfl, hb3⟩
  have HB3 := Lib.hid (below_next HB2.out hb3)
  have HO3 := Lib.hid (HO.out.of_new hb3)
  clear hb3 HO
  go_wp2_with ((with_reducible refine wpList_store_octs (op := ⟨none, Op.store 25 (.tmp 8) (.tmp 30), _, _, _, _⟩) 25 (.tmp 8) (.tmp 30) w3.heap.size 25 (List.replicate 32 (0 : UInt8)) (sumL l) ?g ?ho ?hx ?hy ?hh ?hi ?hs ?_); (case g => rfl); (case ho => rfl); (case hx => rfl); (case hy => rfl); (case hh => exact heap_alloc_new w3 _); (case hi => rw [D1.out]; kernel_rfl); (case hs => rw [D1.out]; rfl))
  generalize hW4 : World.setRow _ _ _ = w4
  obtain ⟨hx4, hb4, hz4⟩ : Octs w4 w3.heap.size 25 (sumL l) ∧ Below w3.heap.size w3 w4 ∧ w3.heap.size + 1 = w4.heap.size := by
    subst hW4; exact dig_laid w3 _ _
  have HB4 := Lib.hid (below_next HB3.out hb4)
  have HO4 := Lib.hid (HO3.out.of_new hb4)
  obtain ⟨g1, hg1⟩ : ∃ g, g = w3.heap.size := ⟨_, rfl⟩
  rw [← hg1] at hx4 hz4 ⊢
  clear hb4 HO3 hW4 hg1
  refine (Tagged_any 3 _ ps _ (HP.out.of_new HB4.out) h40 HM.out (hK.of_new HB4.out)).mono ?_
  rintro e w5 ⟨rfl, hb5⟩
  have HB5 := Lib.hid (below_next HB4.out hb5)
  have HO5 := Lib.hid (HO4.out.of_new hb5)
  have hx5 := hx4.of_block (hb5.block _ (by omega))
  have hz5 : g1 < w5.heap.size := by have := hb5.size; omega
  clear hb5 HO4 hx4 hz4
  go_wp2_with ((with_reducible refine wpList_store_octs (op := ⟨none, Op.store 25 (.tmp 9) (.tmp 32), _, _, _, _⟩) 25 (.tmp 9) (.tmp 32) w5.heap.size 25 (List.replicate 32 (0 : UInt8)) (sumL (partsL 3 ps)) ?g ?ho ?hx ?hy ?hh ?hi ?hs ?_); (case g => rfl); (case ho => rfl); (case hx => rfl); (case hy => rfl); (case hh => exact heap_alloc_new w5 _); (case hi => rw [D2.out]; kernel_rfl); (case hs => rw [D2.out]; rfl))
  generalize hW6 : World.setRow _ _ _ = w6
  obtain ⟨hy6, hb6, hz6⟩ : Octs w6 w5.heap.size 25 (sumL (partsL 3 ps)) ∧ Below w5.heap.size w5 w6 ∧ w5.heap.size + 1 = w6.heap.size := by
    subst hW6; exact dig_laid w5 _ _
  have HB6 := Lib.hid (below_next HB5.out hb6)
  have HO6 := Lib.hid (HO5.out.of_new hb6)
  have hx6 := hx5.of_block (hb6.block _ hz5)
  obtain ⟨g2, hg2⟩ : ∃ g, g = w5.heap.size := ⟨_, rfl⟩
  rw [← hg2] at hy6 hz6 hz5 ⊢
  clear hb6 HO5 hW6 hg2 hx5
  refine (Tagged_any 3 _ ps _ (HP.out.of_new HB6.out) h40 HM.out (hK.of_new HB6.out)).mono ?_
  rintro e w7 ⟨rfl, hb7⟩
  have HB7 := Lib.hid (below_next HB6.out hb7)
  have HO7 := Lib.hid (HO6.out.of_new hb7)
  have hx7 := hx6.of_block (hb7.block _ (by omega))
  have hy7 := hy6.of_block (hb7.block _ (by omega))
  have hz7 : g2 < w7.heap.size := by have := hb7.size; omega
  clear hb7 HO6 hx6 hy6 hz6
  go_wp2_with ((with_reducible refine wpList_store_octs (op := ⟨none, Op.store 25 (.tmp 10) (.tmp 34), _, _, _, _⟩) 25 (.tmp 10) (.tmp 34) w7.heap.size 25 (List.replicate 32 (0 : UInt8)) (sumL (partsL 3 ps)) ?g ?ho ?hx ?hy ?hh ?hi ?hs ?_); (case g => rfl); (case ho => rfl); (case hx => rfl); (case hy => rfl); (case hh => exact heap_alloc_new w7 _); (case hi => rw [D2.out]; kernel_rfl); (case hs => rw [D2.out]; rfl))
  generalize hW8 : World.setRow _ _ _ = w8
  obtain ⟨hz8, hb8, hs8⟩ : Octs w8 w7.heap.size 25 (sumL (partsL 3 ps)) ∧ Below w7.heap.size w7 w8 ∧ w7.heap.size + 1 = w8.heap.size := by
    subst hW8; exact dig_laid w7 _ _
  have HB8 := Lib.hid (below_next HB7.out hb8)
  have HO8 := Lib.hid (HO7.out.of_new hb8)
  have hx8 := Lib.hid (hx7.of_block (hb8.block _ (by omega)))
  have hy8 := Lib.hid (hy7.of_block (hb8.block _ hz7))
  have hz8 := Lib.hid hz8
  obtain ⟨g3, hg3⟩ : ∃ g, g = w7.heap.size := ⟨_, rfl⟩
  rw [← hg3] at hz8 ⊢
  clear hb8 HO7 hW8 hg3 hx7 hy7 hs8
  have HL8 := Lib.hid (HL.out.of_new HB8.out)
  have s1 := fun w' (hw' : Grew w8 w') => (hw'.bytes HL8.out).string (P := Tryd.prog) (t := 22) (d := 9) Tryd.underlying22 Tryd.underlying5 Tryd.underlying9
  have s2 := fun w' (hw' : Grew w8 w') => (hw'.bytes HO8.out).string (P := Tryd.prog) (t := 22) (d := 9) Tryd.underlying22 Tryd.underlying5 Tryd.underlying9
  simp only [Act.put]
  refine wp_region_grew (by kernel_rfl) (by kernel_rfl) ?_
  (go_big_quiet_want; (with_reducible refine quiet_load_octs 25 (.tmp 8) (g1) 25 32 5 (sumL l) ?_ ?_ ?_ ?_ ?_ ?_); rfl; rfl; exact hx8.out; exact Tryd.underlying25; (rw [D1.out]; kernel_rfl); go_simp; go_big_quiet_on)
  (go_big_quiet_want; apply quiet_val; (intro w' hw'; go_simp; first | done | rfl); go_simp; go_big_quiet_on)
  (go_big_quiet_want; apply quiet_call (f := 13); (intro w' hw'; go_simp; first | done | rfl); (intro w' hw'; exact Grew.call hw' (Sum_any _ l w' (hw'.bytes HO8.out) (by omega) (hK.of_new (below_next HB8.out hw')))); go_simp; go_big_quiet_on)
  (go_big_quiet_want; apply quiet_val; (intro w' hw'; go_simp; first | done | rfl); go_simp; go_big_quiet_on)
  (go_big_quiet_want; apply quiet_val; (intro w' hw'; go_simp; first | done | rfl); go_simp; go_big_quiet_on)
  (go_big_quiet_want; apply quiet_val; (intro w' hw'; go_simp; first | done | rfl); go_simp; go_big_quiet_on)
  (go_big_quiet_want; apply quiet_val; (intro w' hw'; go_simp; first | done | rfl); go_simp; go_big_quiet_on)
  (go_big_quiet_want; apply quiet_val; (intro w' hw'; go_simp; first | done | rfl); go_simp; go_big_quiet_on)
  (go_big_quiet_want; apply quiet_val; (intro w' hw'; go_simp; first | done | rfl); go_simp; go_big_quiet_on)
  (go_big_quiet_want; apply quiet_val; (intro w' hw'; go_simp; first | done | rfl); go_simp; go_big_quiet_on)
  (go_big_quiet_want; apply quiet_val; (intro w' hw'; go_simp; first | done | rfl); go_simp; go_big_quiet_on)
  (go_big_quiet_want; apply quiet_val; (intro w' hw'; go_simp; first | done | rfl); go_simp; go_big_quiet_on)
  (go_big_quiet_want; (with_reducible refine quiet_load_octs 25 (.tmp 9) (g2) 25 32 5 (sumL (partsL 3 ps)) ?_ ?_ ?_ ?_ ?_ ?_); rfl; rfl; exact hy8.out; exact Tryd.underlying25; (rw [D2.out]; kernel_rfl); go_simp; go_big_quiet_on)
  (go_big_quiet_want; (with_reducible refine quiet_load_octs 25 (.tmp 10) (g3) 25 32 5 (sumL (partsL 3 ps)) ?_ ?_ ?_ ?_ ?_ ?_); rfl; rfl; exact hz8.out; exact Tryd.underlying25; (rw [D2.out]; kernel_rfl); go_simp; go_big_quiet_on)
  (go_big_quiet_want; apply quiet_val; (intro w' hw'; go_simp; first | done | rfl); go_simp; go_big_quiet_on)
  (go_big_quiet_want; apply quiet_val; (intro w' hw'; go_simp; first | done | rfl); go_simp; go_big_quiet_on)
  (go_big_quiet_want; apply quiet_val; (intro w' hw'; go_simp; first | done | rfl); go_simp; go_big_quiet_on)
  refine wpQuiet_nil ?_
  intro w9 hw9
  go_wp2
  go_ret
  exact ⟨rfl, below_next HB8.out hw9⟩

end Go.Proofs.YtakdbhehacbokaaDoor
