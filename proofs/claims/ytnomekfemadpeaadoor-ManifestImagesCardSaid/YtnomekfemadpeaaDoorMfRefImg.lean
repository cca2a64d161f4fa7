/- The walk of the reference's Image: whether an image may be. No condition. -/
import Derived.Test.YtnomekfemadpeaaDoorMfImage
import Derived.Test.YtnomekfemadpeaaDoorGb
namespace Go.Proofs.YtnomekfemadpeaaDoor
open Go.RowKit
set_option linter.unusedVariables false
set_option linter.unusedSimpArgs false
set_option maxRecDepth 100000

theorem imageE_short {l : List BlobL} (h : l.length < 1 ∨ 16 < l.length) : imageE l = 1 := by unfold imageE; rw [if_pos (h.imp id .inl)]
theorem imageE_odd {l : List BlobL} {x : BlobL} (h : x ∈ l) (hx : mrightB x.size x.piece = false) : imageE l = 1 := by
  unfold imageE
  have hr : rightsB l = false := by
    cases hr : rightsB l
    · rfl
    · have := List.all_eq_true.1 hr x h
      rw [hx] at this; cases this
  rw [if_pos (.inr (.inr hr))]
theorem imageE_fine {l : List BlobL} (h1 : ¬ l.length < 1) (h2 : ¬ 16 < l.length) (hr : rightsB l = true) : imageE l = if (digs l).Nodup then 0 else 5 := by
  unfold imageE
  rw [if_neg]
  rintro (h | h | h)
  · exact h1 h
  · exact h2 h
  · rw [hr] at h; cases h
theorem rights_step {l : List BlobL} {k : Nat} {x : BlobL} (h : l[k]? = some x) (h1 : rightsB (l.take k) = true) (h2 : mrightB x.size x.piece = true) : rightsB (l.take (k + 1)) = true := by
  unfold rightsB at *
  rw [List.take_add_one, h, List.all_append, h1]
  simp [h2]

/-- Ahead of each round. -/
def RImgI (w0 : World) (l : List BlobL) (tv iv : Value) (W : World) : Prop := ∃ k : Nat, k ≤ l.length ∧ iv = .int .i64 k ∧ tv = .bool (!decide (digs (l.take k)).Nodup) ∧ rightsB (l.take k) = true ∧ Below w0.heap.size w0 W
def RImgJ (w0 : World) (l : List BlobL) (i : Nat) (d : List UInt8) (tv kv : Value) (W : World) : Prop := ∃ k : Nat, k ≤ i ∧ kv = .int .i64 k ∧ tv = .bool (!decide (digs (l.take i)).Nodup || decide (d ∈ digs (l.take k))) ∧ Below w0.heap.size w0 W
theorem twice_step {l : List BlobL} {k : Nat} {x : BlobL} (h : l[k]? = some x) : (!decide (digs (l.take (k + 1))).Nodup) = (!decide (digs (l.take k)).Nodup || decide (x.dig ∈ digs (l.take k))) := by
  have e : decide (digs (l.take k) ++ [x.dig]).Nodup = (decide (digs (l.take k)).Nodup && !decide (x.dig ∈ digs (l.take k))) := by
    rw [Bool.eq_iff_iff]
    simp only [decide_eq_true_eq, Bool.and_eq_true, Bool.not_eq_true', decide_eq_false_iff_not, nodup_snoc]
  rw [digs_step h, e]
  cases decide (digs (l.take k)).Nodup <;> cases decide (x.dig ∈ digs (l.take k)) <;> rfl
theorem mem_step {l : List BlobL} {k : Nat} {x : BlobL} {d : List UInt8} (h : l[k]? = some x) : decide (d ∈ digs (l.take (k + 1))) = (decide (d ∈ digs (l.take k)) || decide (x.dig = d)) := by
  rw [digs_step h, Bool.eq_iff_iff]
  simp only [List.mem_append, List.mem_singleton, Bool.or_eq_true, decide_eq_true_eq]
  exact or_congr Iff.rfl eq_comm

set_option maxHeartbeats 6400000 in
theorem RImage_any (v : Value) (l : List BlobL) (w : World) (hl : RBlob.Row w v l) : Calls Tryd.prog 36 #[.agg #[v]] w fun e w' => e = .returned (.int .i64 (imageE l)) ∧ Below w.heap.size w w' := by
  obtain ⟨a, c, hv⟩ := hl.len
  subst hv
  have hle := hl.le
  obtain ⟨W, hW⟩ : ∃ W, w.alloc (.cells #[.slice a l.length c] 52) = W := ⟨_, rfl⟩
  have ho : One W w.heap.size (.slice a l.length c) 52 := by rw [← hW]; exact heap_alloc_new w _
  have hb : Below w.heap.size w W := by rw [← hW]; exact (Below.refl _ w).alloc (Nat.le_refl _) _
  have hc1 := ho.cell
  have HL := Lib.hid (hl.of_new hb)
  have HO := Lib.hid ho
  have HW := Lib.hid hW
  have HB := Lib.hid hb
  clear hl ho hW hb
  by_cases h1 : l.length < 1
  · have HE := Lib.hid (imageE_short (.inl h1))
    have h1i : (l.length : Int) < 1 := by omega
    clear h1
    go_enter Tryd.func36, Tryd.ntmps36
    go_upto_region 1 with (fail)
    rw [HW.out]
    go_wp2
    go_ret
    exact ⟨ret_int5 HE.out, HB.out⟩
  have h1i : ¬ (l.length : Int) < 1 := by omega
  by_cases h2 : 16 < l.length
  · have HE := Lib.hid (imageE_short (.inr h2))
    have h2i : (16 : Int) < (l.length : Int) := by omega
    clear h1 h2
    go_enter Tryd.func36, Tryd.ntmps36
    go_upto_region 1 with (fail)
    rw [HW.out]
    go_wp2
    go_ret
    exact ⟨ret_int5 HE.out, HB.out⟩
  have h2i : ¬ (16 : Int) < (l.length : Int) := by omega
  have HE := Lib.hid (fun hr => imageE_fine h1 h2 hr)
  have h2l : (l.length : Int) ≤ 16 := by omega
  clear h1 h2
  go_enter Tryd.func36, Tryd.ntmps36
  go_upto_region 1 with (fail)
  rw [HW.out]
  go_wp2
  go_loopw [3, 4, 5, 6] (fun tv iv _ _ W' => RImgI W l tv iv W') (fun _ iv _ _ _ => l.length - (intOf iv).toNat)
  case atStart => exact ⟨0, Nat.zero_le _, rfl, by simp [digs], rfl, Below.refl _ _⟩
  case round =>
    obtain ⟨i, hi, rfl, rfl, hri, hbr⟩ := hrel
    have hc2 := Grew.cell hbr hc1
    by_cases hlt : i < l.length
    · obtain ⟨b, off, c', hv, hbl, hc⟩ := HL.out.at_ (by omega)
      obtain ⟨rfl, rfl⟩ : a = some ⟨b, off, none⟩ ∧ c = c' := by cases hv; exact ⟨rfl, rfl⟩
      obtain ⟨y, hy⟩ : ∃ y, l[i]? = some y := ⟨_, List.getElem?_eq_getElem hlt⟩
      have hat := (hc i y hy).of_new hbr
      have hR := fun w' => RRight_any y w' hat.1
      have hii : (i : Int) < (l.length : Int) := by omega
      have HC := Lib.hid hc
      have HY := Lib.hid hy
      have HAT := Lib.hid hat
      have HBR := Lib.hid hbr
      have HRI := Lib.hid hri
      obtain ⟨TW, hTW⟩ : ∃ TW, (!decide (digs (l.take i)).Nodup) = TW := ⟨_, rfl⟩
      have HTW := Lib.hid hTW
      rw [hTW]
      clear hv hc hy hat hbr hri hTW
      rcases hrb : mrightB y.size y.piece with _ | _
      · rw [hrb] at hR
        have HR := Lib.hid hR
        have HN := Lib.hid (imageE_odd (List.mem_of_getElem? HY.out) hrb)
        clear hR hrb
        go_wp2_with (first
          | ((with_reducible refine wpList_plain (o := ⟨some 28, Op.load _ _, _, _, _, _⟩) rfl fun K hK => ?_); (refine HAT.out.wp rfl rfl (hK _ _ ?_)))
          | (go_at_call 20; refine (HR.out _).mono ?_; rintro e w4 ⟨rfl, hb4⟩; have HB4 := Lib.hid (below_next (below_next HB.out HBR.out) hb4); clear hb4))
        go_ret
        exact ⟨ret_int5 HN.out, HB4.out⟩
      rw [hrb] at hR
      have HR := Lib.hid hR
      have HRS := Lib.hid (rights_step HY.out HRI.out hrb)
      clear hR hrb
      rename World => wo
      go_wp2_with (first
        | ((with_reducible refine wpList_plain (o := ⟨some 28, Op.load _ _, _, _, _, _⟩) rfl fun K hK => ?_); (refine HAT.out.wp rfl rfl (hK _ _ ?_)))
        | (go_at_call 20; refine (HR.out _).mono ?_; rintro e w4 ⟨rfl, hb4⟩; have HB4 := Lib.hid (below_next HBR.out hb4); have HAT4 := Lib.hid (HAT.out.of_new hb4); clear hb4))
      go_loopw [3, 6] (fun tv kv W' => RImgJ w4 l i y.dig tv kv W') (fun _ kv _ => i - (intOf kv).toNat)
      case atStart => exact ⟨0, Nat.zero_le _, rfl, by rw [HTW.out]; simp [digs], Below.refl _ _⟩
      case round =>
        obtain ⟨k, hk, rfl, rfl, hbk⟩ := hrel
        rw [HTW.out]
        have hbB := below_next HB4.out hbk
        have hc3 := Grew.cell hbB hc1
        by_cases hlt2 : k < i
        · obtain ⟨z, hz⟩ : ∃ z, l[k]? = some z := ⟨_, List.getElem?_eq_getElem (by omega)⟩
          have hatz := (HC.out k z hz).of_new hbB
          have haty := HAT4.out.of_new hbk
          have hdz := hatz.dig5
          have hdy := haty.dig5
          have hst := mem_step (d := y.dig) hz
          obtain ⟨M, hM⟩ : ∃ M, decide (y.dig ∈ digs (l.take k)) = M := ⟨_, rfl⟩
          rw [hM] at hst ⊢
          have hq := fun w' => run_eql_dig z.dig y.dig hatz.1.1 haty.1.1 w'
          have hgd := guard_dig
          have hco : ∀ w', Grew wr w' → w'.cell? ⟨w.heap.size, 0, none⟩ = some (.slice (some ⟨b, off, none⟩) l.length c) := fun w' h => Grew.cell h hc3
          have hki : (k : Int) < (i : Int) := by omega
          have hkl : (k : Int) < (l.length : Int) := by omega
          have HST := Lib.hid hst
          have HBK := Lib.hid hbk
          clear hz hatz haty hst hM hbk hbB
          generalize hX : decide (z.dig = y.dig) = X at hq
          have HX := Lib.hid hX
          clear hX
          cases hT : (TW || M)
          · go_upto_region 13 with (fail)
            refine wp_region_grew (by kernel_rfl) (by kernel_rfl) ?_
            repeat (first
              | (go_big_quiet_want; (with_reducible apply quiet_load_at (ty := 25) (x := .tmp _)); rfl; rfl; assumption; go_simp; go_big_quiet_on)
              | (go_big_quiet_want; apply quiet_val; (intro w' hw'; go_simp; first | done | rfl); go_simp; go_big_quiet_on)
              | (go_big_quiet_skip))
            refine wpQuiet_nil ?_
            intro w6 hw6
            have HW6 := Lib.hid (show Below wr.heap.size wr w6 from hw6)
            clear hw6
            go_wp2
            go_roundw
            case rel => exact ⟨k + 1, by omega, by go_num, by rw [HTW.out, HST.out, HX.out, ← Bool.or_assoc, hT]; simp, below_next HBK.out HW6.out⟩
            case measure => simp [intOf]; omega
          · go_upto_region 13 with (fail)
            refine wp_region_grew (by kernel_rfl) (by kernel_rfl) ?_
            repeat (first
              | (go_big_quiet_want; (with_reducible apply quiet_load_at (ty := 25) (x := .tmp _)); rfl; rfl; assumption; go_simp; go_big_quiet_on)
              | (go_big_quiet_want; apply quiet_val; (intro w' hw'; go_simp; first | done | rfl); go_simp; go_big_quiet_on)
              | (go_big_quiet_skip))
            refine wpQuiet_nil ?_
            intro w6 hw6
            have HW6 := Lib.hid (show Below wr.heap.size wr w6 from hw6)
            clear hw6
            go_wp2
            go_roundw
            case rel => exact ⟨k + 1, by omega, by go_num, by rw [HTW.out, HST.out, ← Bool.or_assoc, hT]; simp, below_next HBK.out HW6.out⟩
            case measure => simp [intOf]; omega
        · obtain rfl : k = i := by omega
          have hki : ¬ (k : Int) < (k : Int) := by omega
          have HT2 := Lib.hid (twice_step HY.out)
          have HBK := Lib.hid (below_next HB4.out hbk)
          obtain ⟨M, hM⟩ : ∃ M, decide (y.dig ∈ digs (l.take k)) = M := ⟨_, rfl⟩
          have HM := Lib.hid hM
          rw [hM]
          clear hbB hbk hM
          go_wp2
          go_roundw
          case rel => exact ⟨k + 1, by omega, by go_num, by rw [HT2.out, HTW.out, HM.out], HRS.out, HBK.out⟩
          case measure => simp [intOf]; omega
    · obtain rfl : i = l.length := by omega
      rw [List.take_length] at hri ⊢
      have HN := Lib.hid (HE.out hri)
      have HBR := Lib.hid (below_next HB.out hbr)
      by_cases hn : (digs l).Nodup
      · have HN2 := Lib.hid (HN.out.trans (if_pos hn))
        rw [show (!decide (digs l).Nodup) = false by simp [hn]]
        clear hri hbr hn
        go_wp2
        go_ret
        exact ⟨ret_int5 HN2.out, HBR.out⟩
      · have HN2 := Lib.hid (HN.out.trans (if_neg hn))
        rw [show (!decide (digs l).Nodup) = true by simp [hn]]
        clear hri hbr hn
        go_wp2
        go_ret
        exact ⟨ret_int5 HN2.out, HBR.out⟩

end Go.Proofs.YtnomekfemadpeaaDoor
