/- The walk of the reference's Encode of an image. No condition. -/
import Derived.Test.YtnomekfemadpeaaDoorMfEncImg
import Derived.Test.YtnomekfemadpeaaDoorMfRefImg
import Derived.Test.YtnomekfemadpeaaDoorTlvRefEnc
namespace Go.Proofs.YtnomekfemadpeaaDoor
open Go.RowKit
set_option linter.unusedVariables false
set_option linter.unusedSimpArgs false
set_option maxRecDepth 100000

set_option maxHeartbeats 6400000 in
theorem REncImg_any (v : Value) (l : List BlobL) (w : World) (hl : RBlob.Row w v l) : Calls Tryd.prog 29 #[.agg #[v]] w (EncIPost w l) := by
  obtain ⟨a, c, hv⟩ := hl.len
  subst hv
  have hle := hl.le
  obtain ⟨W, hW⟩ : ∃ W, w.alloc (.cells #[.slice a l.length c] 52) = W := ⟨_, rfl⟩
  have ho : One W w.heap.size (.slice a l.length c) 52 := by rw [← hW]; exact heap_alloc_new w _
  have hb : Below w.heap.size w W := by rw [← hW]; exact (Below.refl _ w).alloc (Nat.le_refl _) _
  have hc1 := ho.cell
  have hI := RImage_any _ l W (hl.of_new hb)
  have HL := Lib.hid (hl.of_new hb)
  have HO := Lib.hid ho
  have HW := Lib.hid hW
  have HB := Lib.hid hb
  have HI := Lib.hid hI
  have hls := ho.lt
  clear hl ho hW hb hI
  obtain ⟨E, hE⟩ : ∃ E, imageE l = E := ⟨_, rfl⟩
  rw [hE] at HI
  have HE := Lib.hid hE
  by_cases h0 : E = 0
  case neg =>
    have HN := Lib.hid (show imageE l ≠ 0 by rw [hE]; exact h0)
    have t1 : (E == 0) = false := beq_eq_false_iff_ne.2 h0
    have t2 : (E != 0) = true := bne_iff_ne.2 h0
    clear hE h0
    go_enter Tryd.func29, Tryd.ntmps29
    go_upto_region 1 with (fail)
    rw [HW.out]
    go_wp2_with (go_at_call 36; refine HI.out.mono ?_; rintro e w2 ⟨rfl, hb2⟩; have HB2 := Lib.hid (below_next HB.out hb2); clear hb2)
    go_ret2
    rw [← HE.out]
    exact encG_bad HN.out HB2.out
  subst h0
  have HR := Lib.hid (image_rights hE)
  have h16 : l.length ≤ 16 := by
    unfold imageE at hE
    split at hE
    · cases hE
    · omega
  clear hE
  go_enter Tryd.func29, Tryd.ntmps29
  go_upto_region 1 with (fail)
  rw [HW.out]
  go_wp2_with (go_at_call 36; refine HI.out.mono ?_; rintro e w2 ⟨rfl, hb2⟩; have hc2 := Grew.cell hb2 hc1; have HB2 := Lib.hid (below_next HB.out hb2); have HL2 := Lib.hid (HL.out.of_new hb2); clear hb2)
  go_loopw [5, 6, 7, 8, 9] (fun lv iv _ _ _ W' => EncIM w2 l lv iv W') (fun _ iv _ _ _ _ => l.length - (intOf iv).toNat)
  case atStart => exact ⟨0, [], Nat.zero_le _, rfl, by simp [imgIts, imgItsF], rfl, OwnIt.nil _ _, Below.refl _ _⟩
  case round =>
    obtain ⟨k, its, hk, rfl, hit, hil, hown, hbr⟩ := hrel
    have hc3 := Grew.cell hbr hc2
    obtain ⟨la, lc, hv⟩ := hown.len
    subst hv
    by_cases hlt : k < l.length
    · obtain ⟨b, off, c', hv, hbl, hc⟩ := HL2.out.at_ (by omega)
      obtain ⟨rfl, rfl⟩ : a = some ⟨b, off, none⟩ ∧ c = c' := by cases hv; exact ⟨rfl, rfl⟩
      obtain ⟨y, hy⟩ : ∃ y, l[k]? = some y := ⟨_, List.getElem?_eq_getElem hlt⟩
      have hat := (hc k y hy).of_new hbr
      have hyo := hat.1
      have hyr := right_bd (HR.out y (List.mem_of_getElem? hy))
      have hki : (k : Int) < (l.length : Int) := by omega
      have hk16 : (k : Int) ≤ 16 := by omega
      have hst := imgIts_step hy
      obtain ⟨n, hn⟩ : ∃ n : Nat, y.size = (n : Int) := ⟨y.size.toNat, by omega⟩
      obtain ⟨q, hq⟩ : ∃ q : Nat, y.piece = (q : Int) := ⟨y.piece.toNat, by omega⟩
      have hnq : n ≤ 1048576 ∧ q ≤ 1048576 := by omega
      have HY := Lib.hid hy
      have HIT := Lib.hid hit
      have HIL := Lib.hid hil
      have HWN := Lib.hid hown
      have HBR := Lib.hid hbr
      have HAT := Lib.hid hat
      have HYO := Lib.hid hyo
      have HYR := Lib.hid hyr
      have HST := Lib.hid hst
      have HN := Lib.hid hn
      have HQ := Lib.hid hq
      have HNQ := Lib.hid hnq
      clear hv hc hy hit hil hown hbr hat hyo hyr hst hn hq hnq
      go_upto_region 9 with (first
        | ((with_reducible refine wpList_plain (o := ⟨some 26, Op.load _ _, _, _, _, _⟩) rfl fun K hK => ?_); (refine HAT.out.wp rfl rfl (hK _ _ ?_)))
        | ((with_reducible refine wpList_plain (o := ⟨some 7, Op.alloc _, _, _, _, _⟩) rfl fun K hK => ?_); (refine RBlob.wp_alloc rfl fun w4 ho4 hb4 hs4 => hK _ _ ?_); have HO4 := Lib.hid ho4; have HB4 := Lib.hid hb4; clear ho4 hb4 hs4)
        | ((with_reducible refine wpList_plain (o := ⟨none, Op.store _ (.tmp 7) (.tmp 26), _, _, _, _⟩) rfl fun K hK => ?_); (refine HO4.out.store (.tmp 7) (.tmp 26) rfl rfl rfl HYO.out fun w5 ho5 hg5 hs5 => hK _ _ ?_); have hb5 := HB4.out.grown hg5 (by have := HB4.out.size; omega) (fun k e => by cases e; exact Nat.le_refl _); have HO5 := Lib.hid ho5; have HB5 := Lib.hid hb5; clear ho5 hg5 hs5 hb5))
      have hyO := HO5.out.blobO
      have c32 := hyO.size
      have c33 := hyO.piece
      rw [HN.out] at c32
      rw [HQ.out] at c33
      have hwn : IntKind.u64.wrap (n : Int) = (n : Int) := by have := HNQ.out; simp [IntKind.wrap, IntKind.bits, IntKind.signed]; omega
      have hwq : IntKind.u64.wrap (q : Int) = (q : Int) := by have := HNQ.out; simp [IntKind.wrap, IntKind.bits, IntKind.signed]; omega
      have hbx := Below.refl w5.heap.size w5
      have hn64 : n < 18446744073709551616 := by have := HNQ.out; omega
      have hq64 : q < 18446744073709551616 := by have := HNQ.out; omega
      have hls5 := HO5.out.lt
      have HD5 := Lib.hid hyO.dig.bytes
      have HR5 := Lib.hid hyO.root.bytes
      have hits : blobIts y = [(1, y.dig), (2, uint n), (3, uint q), (4, y.root)] := by unfold blobIts; rw [HN.out, HQ.out]; rfl
      have hyr := HYR.out
      have henc : rencL (blobIts y) = some (blobB y) := (rencL_eq _).trans (enc_blob HYO.out ⟨by omega, by omega⟩ ⟨by omega, by omega⟩)
      rw [hits] at henc
      have HEN := Lib.hid henc
      clear hyO hits hyr henc
      go_upto_region 9 with (fail)
      try simp only [Act.put]
      try go_frame
      go_cut [8] (fun v8 W' => Own8 W' w5.heap.size 5 v8 (blobB y) ∧ Below w5.heap.size w5 W')
      case first =>
        go_region_with (first
          | (go_at_call 54; (with_reducible refine (refUint_at _ n _ rfl hn64).mono ?_); rintro e w6 ⟨v6, rfl, ho6, hb6⟩; obtain ⟨a6, c6, hv6⟩ := ho6.bytes.len; subst hv6; (try replace c32 := Grew.cell hb6 c32); (try replace c33 := Grew.cell hb6 c33); (try replace ho7 := ho7.new hb6); (first | replace hbx := below_next hbx.drew hb6 | replace hbx := below_next hbx hb6))
          | (go_at_call 54; (with_reducible refine (refUint_at _ q _ rfl hq64).mono ?_); rintro e w7 ⟨v7, rfl, ho7, hb7⟩; obtain ⟨a7, c7, hv7⟩ := ho7.bytes.len; subst hv7; (try replace c32 := Grew.cell hb7 c32); (try replace c33 := Grew.cell hb7 c33); (try replace ho6 := ho6.new hb7); (first | replace hbx := below_next hbx.drew hb7 | replace hbx := below_next hbx hb7))
          | (go_at_call 53; refine (refEncode_any _ [(1, y.dig), (2, uint n), (3, uint q), (4, y.root)] _ (by exact items_four (HD5.out.of_new hbx) ho6.bytes ho7.bytes (HR5.out.of_new hbx))).mono ?_; intro e w9 hp; rw [HEN.out] at hp; obtain ⟨hb9, v9, rfl, ho9⟩ := hp))
        all_goals
          go_wp2_with fail
          go_meet
          have hz := hbx.size
          exact ⟨ho9.mono (by simp [World.drew]; omega), below_next (hbx.alloc hz _) hb9⟩
      case rest =>
        rename World => w9
        obtain ⟨ho9, hb9⟩ := hcut
        have hlo := ho9.lt
        have HB9 := Lib.hid (below_next HB5.out hb9)
        have HB5s := Lib.hid HB5.out.size
        obtain ⟨a10, c10, hv⟩ := ho9.bytes.len
        subst hv
        have HV9 := Lib.hid ho9.bytes
        have HLO := Lib.hid hlo
        have hs6 := HB5.out.size
        have hs9 := HB9.out.size
        have hsr := HBR.out.size
        clear hb9 ho9 hlo c32 c33 hbx hwn hwq
        go_wp2_with (first
          | ((with_reducible refine wpList_plain (o := ⟨some 54, _, _, _, _, _⟩) rfl fun K hK => ?_); refine wp_appIt (.tmp 48) (.tmp 53) rfl w2.heap.size _ its (((k : Int) + 1, blobB y), .slice a10 (blobB y).length c10) w9.heap.size rfl ((HWN.out.of_new HB9.out).of_new ((Below.refl _ w9).alloc (Nat.le_refl _) _)) rfl (HV9.out.of_new ((Below.refl _ w9).alloc (Nat.le_refl _) _)) (fun z hz => ⟨by have := (HLO.out z hz).2; simp; omega, fun e => by have := (HWN.out.lt z e).2; have := (HLO.out z hz).1; omega⟩) (heap_alloc_new w9 _) (by have := HIL.out; omega) (by simp; omega) ?_; intro v11 w11 ho11 hg11 hn11; refine hK _ _ ?_; obtain ⟨a11, c11, hv11⟩ := ho11.len; subst hv11; have HO11 := Lib.hid ho11; have HG11 := Lib.hid hg11; clear ho11 hg11 hn11 hK))
        go_roundw
        case rel =>
          refine ⟨k + 1, its ++ [(((k : Int) + 1, blobB y), .slice a10 (blobB y).length c10)], by omega, by go_num, ?_, by have := HIL.out; simp; omega, by have h := HO11.out; rw [List.length_append, List.length_singleton] at h; exact h, (below_next HBR.out ((HB9.out).alloc HB9.out.size _)).grown HG11.out (by simp; omega) (fun z hz => (HWN.out.lt z hz).1)⟩
          rw [List.map_append, HIT.out, HST.out]
          rfl
        case measure => simp [intOf]; omega
    · obtain rfl : k = l.length := by omega
      rw [List.take_length] at hit
      have hI := hown.items
      rw [hit] at hI
      have hEn := refEncode_any _ _ wr hI
      rw [rencL_eq] at hEn
      have hc4 := hc3
      have HEn := Lib.hid hEn
      have HBR := Lib.hid (below_next HB2.out hbr)
      clear hI hit hil hown hEn hbr
      go_wp2_with fail
      refine HEn.out.mono ?_
      intro e w4 hp
      have hq := encG_post HE.out hp HBR.out
      obtain ⟨v4, rfl, hv4, hb4⟩ := hq
      have HV4 := Lib.hid hv4
      have HB4 := Lib.hid hb4
      clear hp hv4 hb4
      go_wp2
      go_ret2
      exact ⟨_, rfl, HV4.out, HB4.out⟩

end Go.Proofs.YtnomekfemadpeaaDoor
