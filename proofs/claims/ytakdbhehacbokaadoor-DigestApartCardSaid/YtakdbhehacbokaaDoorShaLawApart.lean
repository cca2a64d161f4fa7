/- The walk of the law DigestApart: it answers true. Condition: the table of constants as the program lays it. -/
import Derived.Test.YtakdbhehacbokaaDoorShaLawTags
namespace Go.Proofs.YtakdbhehacbokaaDoor
open Go.RowKit
set_option linter.unusedVariables false

theorem list_bytes (l : List UInt8) : (⟨l.toArray⟩ : ByteArray).toList = l := by
  rw [ByteArray.toList_eq]
theorem str_eq (l m : List UInt8) : ((⟨l.toArray⟩ : ByteArray).toList == (⟨m.toArray⟩ : ByteArray).toList) = decide (l = m) := by
  rw [list_bytes, list_bytes, Bool.eq_iff_iff]; simp

theorem beq_dec (l m : List UInt8) : (l == m) = decide (l = m) := by
  rw [Bool.eq_iff_iff]; simp

/-- Are the first k parts, the tags and the lengths the same? -/
def sameB (s t : UInt8) (a b : List (List UInt8)) (k : Nat) : Bool := decide (s = t ∧ a.length = b.length ∧ a.take k = b.take k)

theorem sameB_zero (s t : UInt8) (a b : List (List UInt8)) : sameB s t a b 0 = decide (s = t ∧ a.length = b.length) := by simp [sameB]
theorem sameB_next (s t : UInt8) (a b : List (List UInt8)) (k : Nat) (h : sameB s t a b k = true) (hk : k < a.length) : sameB s t a b (k + 1) = decide (a.getD k [] = b.getD k []) := by
  unfold sameB at h ⊢
  simp only [decide_eq_true_eq] at h
  obtain ⟨rfl, hl, ht⟩ := h
  have hk' : k < b.length := by omega
  rw [Bool.eq_iff_iff]
  simp only [decide_eq_true_eq, true_and, hl]
  rw [List.take_succ_eq_append_getElem hk, List.take_succ_eq_append_getElem hk', ht, List.getD_eq_getElem?_getD, List.getD_eq_getElem?_getD, List.getElem?_eq_getElem hk, List.getElem?_eq_getElem hk']
  simp only [Option.getD_some, List.append_cancel_left_eq, List.cons.injEq, and_true]
theorem sameB_len (s t : UInt8) (a b : List (List UInt8)) (k : Nat) (h : sameB s t a b k = true) : a.length = b.length := by
  unfold sameB at h; simp only [decide_eq_true_eq] at h; exact h.2.1
theorem sameB_false (s t : UInt8) (a b : List (List UInt8)) (k : Nat) (h : sameB s t a b k = false) : decide (s = t ∧ a = b) = false := by
  unfold sameB at h
  simp only [decide_eq_false_iff_not] at h ⊢
  rintro ⟨rfl, rfl⟩
  exact h ⟨rfl, rfl, rfl⟩
theorem sameB_end (s t : UInt8) (a b : List (List UInt8)) : sameB s t a b a.length = decide (s = t ∧ a = b) := by
  unfold sameB
  rw [Bool.eq_iff_iff]
  simp only [decide_eq_true_eq]
  constructor
  · rintro ⟨h1, h2, h3⟩; exact ⟨h1, by rw [List.take_length, h2, List.take_length] at h3; exact h3⟩
  · rintro ⟨rfl, rfl⟩; exact ⟨rfl, rfl, rfl⟩

set_option maxRecDepth 100000 in
set_option maxHeartbeats 1600000 in
theorem DigestApart_walk (l : List UInt8) (va : Value) (a : List (List UInt8)) (vb : Value) (b : List (List UInt8)) (w : World) (hl : l.length = 2) (ha : PartsV w va a) (hb : PartsV w vb b) (hK : Consts w) :
    Calls Tryd.prog 6 #[.agg (l.map B8).toArray, va, vb] w fun e w' => e = .returned (.bool true) ∧ Below w.heap.size w w' := by
  obtain ⟨s, t, rfl⟩ : ∃ s t, l = [s, t] := by
    match l, hl with
    | [s, t], _ => exact ⟨s, t, rfl⟩
  have hale := ha.le
  have hble := hb.le
  obtain ⟨aa, ac, hv⟩ := ha.len
  subst hv
  obtain ⟨ba, bc, hv⟩ := hb.len
  subst hv
  have HA := Lib.hid ha
  have HB := Lib.hid hb
  clear ha hb hl
  have heq1 := run_eql_dig_same (sumL (partsL s a)) (sumL_len _)
  have heq2 := run_eql_dig_same (sumL (partsL t b)) (sumL_len _)
  have hgd := guard_dig
  simp only [List.map_cons, List.map_nil]
  unfold B8
  go_enter Tryd.func6, Tryd.ntmps6
  go_wp2_with fail
  refine (awake_any _ (hK.of_new ((Below.refl _ w).alloc (Nat.le_refl _) _))).mono ?_
  rintro e w1 ⟨rfl, hb1⟩
  have hb0 : Below w.heap.size w w1 := ((Below.refl _ w).alloc (Nat.le_refl _) _).trans (hb1.mono (by simp))
  have c0 : w1.cell? ⟨w.heap.size, 0, none⟩ = some (.int .u8 (s.toNat : Int)) := (hb1.cell (p := ⟨w.heap.size, 0, none⟩) (by simp)).trans (by simp [go_sem])
  have c1 : w1.cell? ⟨w.heap.size, 1, none⟩ = some (.int .u8 (t.toNat : Int)) := (hb1.cell (p := ⟨w.heap.size, 1, none⟩) (by simp)).trans (by simp [go_sem])
  have hsz : w.heap.size < w1.heap.size := by have := hb1.size; simp at this; omega
  clear hb1
  go_wp2_with fail
  refine (few_any _ a _ (HA.out.of_new hb0)).mono ?_
  rintro e w2 ⟨rfl, rfl⟩
  go_wp2_with fail
  refine (few_any _ b _ (HB.out.of_new hb0)).mono ?_
  rintro e w2 ⟨rfl, rfl⟩
  rcases hfa : fewB a with _ | _
  · go_wp2
    go_ret
    exact ⟨rfl, hb0⟩
  rcases hfb : fewB b with _ | _
  · go_wp2
    go_ret
    exact ⟨rfl, hb0⟩
  obtain ⟨a40, am⟩ := fewB_bounds hfa
  obtain ⟨b40, bm⟩ := fewB_bounds hfb
  have AM := Lib.hid (few_large am)
  have BM := Lib.hid (few_large bm)
  have HB0 := Lib.hid hb0
  clear am bm hfa hfb hb0
  go_wp2_with fail
  refine (Parts_any s _ a _ (HA.out.of_new HB0.out) a40 AM.out).mono ?_
  rintro e w2 ⟨v1, rfl, ho1, hb1⟩
  have HB1 := Lib.hid (below_next HB0.out hb1)
  have c1' : w2.cell? ⟨w.heap.size, 1, none⟩ = some (.int .u8 (t.toNat : Int)) := (hb1.cell (p := ⟨w.heap.size, 1, none⟩) hsz).trans c1
  have c0' : w2.cell? ⟨w.heap.size, 0, none⟩ = some (.int .u8 (s.toNat : Int)) := (hb1.cell (p := ⟨w.heap.size, 0, none⟩) hsz).trans c0
  have hsz' : w.heap.size < w2.heap.size := by have := hb1.size; omega
  have HO1 := Lib.hid ho1.bytes
  clear c0 c1 hsz hb1 ho1
  go_wp2_with fail
  refine (Parts_any t _ b _ (HB.out.of_new HB1.out) b40 BM.out).mono ?_
  rintro e w3 ⟨v2, rfl, ho2, hb2⟩
  have HB2 := Lib.hid (below_next HB1.out hb2)
  have d1 : w3.cell? ⟨w.heap.size, 1, none⟩ = some (.int .u8 (t.toNat : Int)) := (hb2.cell (p := ⟨w.heap.size, 1, none⟩) hsz').trans c1'
  have d0 : w3.cell? ⟨w.heap.size, 0, none⟩ = some (.int .u8 (s.toNat : Int)) := (hb2.cell (p := ⟨w.heap.size, 0, none⟩) hsz').trans c0'
  have HSZ := Lib.hid (show w.heap.size < w3.heap.size by have := hb2.size; omega)
  have HO2 := Lib.hid ho2.bytes
  have HO1' := Lib.hid (HO1.out.of_new hb2)
  clear c0' c1' hsz' hb2 ho2 HO1
  obtain ⟨x1, y1, e1⟩ := HO1'.out.len
  subst e1
  obtain ⟨x2, y2, e2⟩ := HO2.out.len
  subst e2
  have hlenA : (partsL s a).length ≤ 41943401 := by
    have h1 := partsL_len s a 1048576 AM.out
    have h3 : a.length * (8 + 1048576) ≤ 40 * (8 + 1048576) := Nat.mul_le_mul_right _ a40
    omega
  have hlenB : (partsL t b).length ≤ 41943401 := by
    have h1 := partsL_len t b 1048576 BM.out
    have h3 : b.length * (8 + 1048576) ≤ 40 * (8 + 1048576) := Nat.mul_le_mul_right _ b40
    omega
  have h0 : (((s.toNat : Int) == (t.toNat : Int)) = true ∧ ((a.length : Int) == (b.length : Int)) = true ∧ sameB s t a b 0 = true) ∨ (((s.toNat : Int) == (t.toNat : Int)) = true ∧ ((a.length : Int) == (b.length : Int)) = false ∧ sameB s t a b 0 = false) ∨ (((s.toNat : Int) == (t.toNat : Int)) = false ∧ sameB s t a b 0 = false) := by
    rw [sameB_zero]
    by_cases hst : s = t
    · subst hst
      by_cases hlen : a.length = b.length
      · exact .inl ⟨by simp, by simp [hlen], by simp [hlen]⟩
      · exact .inr (.inl ⟨by simp, by simp; omega, by simp [hlen]⟩)
    · refine .inr (.inr ⟨?_, by simp [hst]⟩)
      have : s.toNat ≠ t.toNat := fun q => hst (UInt8.toNat_inj.1 q)
      simp; omega
  rcases h0 with ⟨t1, t2, hs0⟩ | ⟨t1, t2, hs0⟩ | ⟨t1, hs0⟩
  all_goals
    have HS0 := Lib.hid hs0
    clear hs0
    go_wp2
    go_loopw [12, 13] (fun sv iv wr => ∃ k : Nat, k ≤ a.length ∧ iv = .int .i64 k ∧ sv = .bool (sameB s t a b k) ∧ wr.cell? ⟨w.heap.size, 0, none⟩ = some (.int .u8 (s.toNat : Int)) ∧ wr.cell? ⟨w.heap.size, 1, none⟩ = some (.int .u8 (t.toNat : Int)) ∧ Below w3.heap.size w3 wr)
      (fun _ iv _ => a.length - (intOf iv).toNat)
    case atStart => exact ⟨0, by omega, rfl, by rw [HS0.out], d0, d1, Below.refl _ _⟩
    case round =>
      clear d0 d1 HS0
      obtain ⟨k, hk, rfl, rfl, q0, q1, hbr⟩ := hrel
      rcases hsb : sameB s t a b k with _ | _
      · have hfin := sameB_false s t a b k hsb
        clear hsb
        by_cases hlt : k < a.length
        · have t3 : (k : Int) < (a.length : Int) := by omega
          have HC : Hid (decide (s = t ∧ a = b) = false) := Lib.hid hfin
          have hpx : (partsL s a == partsL t b) = false := by
            rw [beq_dec, ← HC.out]; exact decide_eq_decide.2 (parts_inj s t a b (fun p hp => Nat.lt_of_le_of_lt (AM.out p hp) (by decide)) (fun p hp => Nat.lt_of_le_of_lt (BM.out p hp) (by decide)))
          have hs1 := (HO1'.out.of_new hbr).string (P := Tryd.prog) (t := 22) (d := 9) Tryd.underlying22 Tryd.underlying5 Tryd.underlying9
          have hs2 := (HO2.out.of_new hbr).string (P := Tryd.prog) (t := 22) (d := 9) Tryd.underlying22 Tryd.underlying5 Tryd.underlying9
          have hbrn := HB2.out.trans (hbr.mono HB2.out.size)
          have HN := Lib.hid hbrn
          have g1 := HO1'.out.of_new hbr
          have g2 := HO2.out.of_new hbr
          have G1 := Lib.hid g1
          have G2 := Lib.hid g2
          have HSZr := Lib.hid (Nat.lt_of_lt_of_le HSZ.out hbr.size)
          clear hbrn g1 g2 hbr
          go_wp2_with fail
          refine (Tagged_any s _ a _ (HA.out.of_new HN.out) a40 AM.out (hK.of_new HN.out)).mono ?_
          rintro e w4 ⟨rfl, hb4⟩
          have HN4 := Lib.hid (below_next HN.out hb4)
          have G14 := Lib.hid (G1.out.of_new hb4)
          have G24 := Lib.hid (G2.out.of_new hb4)
          have f1 := (hb4.cell (p := ⟨w.heap.size, 1, none⟩) HSZr.out).trans q1
          have HSZ4 := Lib.hid (Nat.lt_of_lt_of_le HSZr.out hb4.size)
          clear hb4 q0 q1
          go_wp2_with fail
          refine (Sum_any _ _ _ G14.out (Nat.le_trans (hlenA) (by decide)) (hK.of_new HN4.out)).mono ?_
          rintro e w5 ⟨rfl, hb5⟩
          have HN5 := Lib.hid (below_next HN4.out hb5)
          have G25 := Lib.hid (G24.out.of_new hb5)
          have f2 := (hb5.cell (p := ⟨w.heap.size, 1, none⟩) HSZ4.out).trans f1
          clear hb5 f1
          go_wp2_with fail
          refine (Tagged_any t _ b _ (HB.out.of_new HN5.out) b40 BM.out (hK.of_new HN5.out)).mono ?_
          rintro e w6 ⟨rfl, hb6⟩
          have HN6 := Lib.hid (below_next HN5.out hb6)
          have G26 := Lib.hid (G25.out.of_new hb6)
          clear hb6 f2
          go_wp2_with fail
          refine (Sum_any _ _ _ G26.out (Nat.le_trans (hlenB) (by decide)) (hK.of_new HN6.out)).mono ?_
          rintro e w7 ⟨rfl, hb7⟩
          have HN7 := Lib.hid (below_next HN6.out hb7)
          clear hb7
          go_wp2
          go_ret
          exact ⟨rfl, HN7.out⟩
        · have t3 : ¬ (k : Int) < (a.length : Int) := by omega
          have HC : Hid (decide (s = t ∧ a = b) = false) := Lib.hid hfin
          have hpx : (partsL s a == partsL t b) = false := by
            rw [beq_dec, ← HC.out]; exact decide_eq_decide.2 (parts_inj s t a b (fun p hp => Nat.lt_of_le_of_lt (AM.out p hp) (by decide)) (fun p hp => Nat.lt_of_le_of_lt (BM.out p hp) (by decide)))
          have hs1 := (HO1'.out.of_new hbr).string (P := Tryd.prog) (t := 22) (d := 9) Tryd.underlying22 Tryd.underlying5 Tryd.underlying9
          have hs2 := (HO2.out.of_new hbr).string (P := Tryd.prog) (t := 22) (d := 9) Tryd.underlying22 Tryd.underlying5 Tryd.underlying9
          have hbrn := HB2.out.trans (hbr.mono HB2.out.size)
          have HN := Lib.hid hbrn
          have g1 := HO1'.out.of_new hbr
          have g2 := HO2.out.of_new hbr
          have G1 := Lib.hid g1
          have G2 := Lib.hid g2
          have HSZr := Lib.hid (Nat.lt_of_lt_of_le HSZ.out hbr.size)
          clear hbrn g1 g2 hbr
          go_wp2_with fail
          refine (Tagged_any s _ a _ (HA.out.of_new HN.out) a40 AM.out (hK.of_new HN.out)).mono ?_
          rintro e w4 ⟨rfl, hb4⟩
          have HN4 := Lib.hid (below_next HN.out hb4)
          have G14 := Lib.hid (G1.out.of_new hb4)
          have G24 := Lib.hid (G2.out.of_new hb4)
          have f1 := (hb4.cell (p := ⟨w.heap.size, 1, none⟩) HSZr.out).trans q1
          have HSZ4 := Lib.hid (Nat.lt_of_lt_of_le HSZr.out hb4.size)
          clear hb4 q0 q1
          go_wp2_with fail
          refine (Sum_any _ _ _ G14.out (Nat.le_trans (hlenA) (by decide)) (hK.of_new HN4.out)).mono ?_
          rintro e w5 ⟨rfl, hb5⟩
          have HN5 := Lib.hid (below_next HN4.out hb5)
          have G25 := Lib.hid (G24.out.of_new hb5)
          have f2 := (hb5.cell (p := ⟨w.heap.size, 1, none⟩) HSZ4.out).trans f1
          clear hb5 f1
          go_wp2_with fail
          refine (Tagged_any t _ b _ (HB.out.of_new HN5.out) b40 BM.out (hK.of_new HN5.out)).mono ?_
          rintro e w6 ⟨rfl, hb6⟩
          have HN6 := Lib.hid (below_next HN5.out hb6)
          have G26 := Lib.hid (G25.out.of_new hb6)
          clear hb6 f2
          go_wp2_with fail
          refine (Sum_any _ _ _ G26.out (Nat.le_trans (hlenB) (by decide)) (hK.of_new HN6.out)).mono ?_
          rintro e w7 ⟨rfl, hb7⟩
          have HN7 := Lib.hid (below_next HN6.out hb7)
          clear hb7
          go_wp2
          go_ret
          exact ⟨rfl, HN7.out⟩
      · by_cases hlt : k < a.length
        · have hlen := sameB_len s t a b k hsb
          have hnx := sameB_next s t a b k hsb hlt
          obtain ⟨pb, poff, pc, hpv, hpb, hat⟩ := HA.out.at_ (by omega)
          obtain ⟨rfl, rfl⟩ : aa = some ⟨pb, poff, none⟩ ∧ ac = pc := by cases hpv; exact ⟨rfl, rfl⟩
          obtain ⟨ua, uc, hcell, hu⟩ := hat k hlt
          obtain ⟨qb, qoff, qc, hqv, hqb, hbt⟩ := HB.out.at_ (by omega)
          obtain ⟨rfl, rfl⟩ : ba = some ⟨qb, qoff, none⟩ ∧ bc = qc := by cases hqv; exact ⟨rfl, rfl⟩
          obtain ⟨vb, vc, hcellb, hub⟩ := hbt k (by omega)
          obtain ⟨x, hx⟩ : ∃ x, x = a.getD k [] := ⟨_, rfl⟩
          obtain ⟨y, hy⟩ : ∃ x, x = b.getD k [] := ⟨_, rfl⟩
          rw [← hx] at hcell hu hnx
          rw [← hy] at hcellb hub hnx
          have hbw := HB2.out.trans (hbr.mono HB2.out.size)
          have p1 := (hbw.cell (p := ⟨pb, poff + k, none⟩) hpb).trans hcell
          have p2 := (hbw.cell (p := ⟨qb, qoff + k, none⟩) hqb).trans hcellb
          have s1 := fun n => ((hu.of_new hbw).of_new (below_drewn n)).string (P := Tryd.prog) (t := 22) (d := 9) Tryd.underlying22 Tryd.underlying5 Tryd.underlying9
          have s2 := fun n => ((hub.of_new hbw).of_new (below_drewn n)).string (P := Tryd.prog) (t := 22) (d := 9) Tryd.underlying22 Tryd.underlying5 Tryd.underlying9
          have t3 : (k : Int) < (a.length : Int) := by omega
          have t4 : (k : Int) < (b.length : Int) := by omega
          have HNX := Lib.hid hnx
          have HBR := Lib.hid hbr
          clear hpv hat hcell hu hqv hbt hcellb hub hx hy hbw hnx hsb hbr hlen hpb hqb
          go_wp2
          go_quiet (fail)
          go_wp2
          go_roundw
          case rel =>
            exact ⟨k + 1, by omega, by go_num, by rw [HNX.out, beq_dec], q0, q1, HBR.out.trans (below_drewn _)⟩
          case measure => simp [intOf]; omega
        · obtain rfl : k = a.length := by omega
          have hfin : decide (s = t ∧ a = b) = true := by rw [← sameB_end, hsb]
          clear hsb
          have t3 : ¬ ((a.length : Int) < (a.length : Int)) := by omega
          have HC : Hid (decide (s = t ∧ a = b) = true) := Lib.hid hfin
          have hpx : (partsL s a == partsL t b) = true := by
            rw [beq_dec, ← HC.out]; exact decide_eq_decide.2 (parts_inj s t a b (fun p hp => Nat.lt_of_le_of_lt (AM.out p hp) (by decide)) (fun p hp => Nat.lt_of_le_of_lt (BM.out p hp) (by decide)))
          have hs1 := (HO1'.out.of_new hbr).string (P := Tryd.prog) (t := 22) (d := 9) Tryd.underlying22 Tryd.underlying5 Tryd.underlying9
          have hs2 := (HO2.out.of_new hbr).string (P := Tryd.prog) (t := 22) (d := 9) Tryd.underlying22 Tryd.underlying5 Tryd.underlying9
          have hbrn := HB2.out.trans (hbr.mono HB2.out.size)
          have HN := Lib.hid hbrn
          have g1 := HO1'.out.of_new hbr
          have g2 := HO2.out.of_new hbr
          have G1 := Lib.hid g1
          have G2 := Lib.hid g2
          have HSZr := Lib.hid (Nat.lt_of_lt_of_le HSZ.out hbr.size)
          clear hbrn g1 g2 hbr
          go_wp2_with fail
          refine (Tagged_any s _ a _ (HA.out.of_new HN.out) a40 AM.out (hK.of_new HN.out)).mono ?_
          rintro e w4 ⟨rfl, hb4⟩
          have HN4 := Lib.hid (below_next HN.out hb4)
          have G14 := Lib.hid (G1.out.of_new hb4)
          have G24 := Lib.hid (G2.out.of_new hb4)
          have f1 := (hb4.cell (p := ⟨w.heap.size, 1, none⟩) HSZr.out).trans q1
          have HSZ4 := Lib.hid (Nat.lt_of_lt_of_le HSZr.out hb4.size)
          clear hb4 q0 q1
          go_wp2_with fail
          refine (Sum_any _ _ _ G14.out (Nat.le_trans (hlenA) (by decide)) (hK.of_new HN4.out)).mono ?_
          rintro e w5 ⟨rfl, hb5⟩
          have HN5 := Lib.hid (below_next HN4.out hb5)
          have G25 := Lib.hid (G24.out.of_new hb5)
          have f2 := (hb5.cell (p := ⟨w.heap.size, 1, none⟩) HSZ4.out).trans f1
          clear hb5 f1
          go_wp2_with fail
          refine (Tagged_any t _ b _ (HB.out.of_new HN5.out) b40 BM.out (hK.of_new HN5.out)).mono ?_
          rintro e w6 ⟨rfl, hb6⟩
          have HN6 := Lib.hid (below_next HN5.out hb6)
          have G26 := Lib.hid (G25.out.of_new hb6)
          clear hb6 f2
          go_wp2_with fail
          refine (Sum_any _ _ _ G26.out (Nat.le_trans (hlenB) (by decide)) (hK.of_new HN6.out)).mono ?_
          rintro e w7 ⟨rfl, hb7⟩
          have HN7 := Lib.hid (below_next HN6.out hb7)
          clear hb7
          go_wp2
          go_ret
          exact ⟨rfl, HN7.out⟩
end Go.Proofs.YtakdbhehacbokaaDoor
