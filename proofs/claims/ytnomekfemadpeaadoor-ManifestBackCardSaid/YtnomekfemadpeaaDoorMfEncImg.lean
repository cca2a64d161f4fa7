/- The walks of manifest.Encode and manifest.Name: an image as bytes, its name. No condition on Encode; on Name: the table of the hash's constants. -/
import Derived.Test.YtnomekfemadpeaaDoorMfImage
import Derived.Test.YtnomekfemadpeaaDoorTlvEncode
import Derived.Test.YtnomekfemadpeaaDoorItRow
import Derived.Deep.DeepCutAuto
import Derived.Deep.Cut
namespace Go.Proofs.YtnomekfemadpeaaDoor
open Go.RowKit
set_option linter.unusedVariables false
set_option linter.unusedSimpArgs false
set_option maxRecDepth 100000

theorem imgIts_step {l : List BlobL} {k : Nat} {x : BlobL} (h : l[k]? = some x) : imgIts (l.take (k + 1)) = imgIts (l.take k) ++ [(((k + 1 : Nat) : Int), blobB x)] := by
  have hk : k < l.length := (List.getElem?_eq_some_iff.1 h).1
  unfold imgIts
  rw [List.take_add_one, h, Option.toList_some, imgItsF_snoc, List.length_take, Nat.min_eq_left (by omega), Nat.zero_add]
/-- A whole hash in its place, as a slice. -/
theorem DigAt.bytes {w : World} {g off : Nat} {d : List UInt8} (h : DigAt w g off d) : Bytes w (.slice (some ⟨g, off, none⟩) 32 32) d := by
  have hl := h.1
  unfold Bytes
  rw [hl]
  exact ⟨by simp [hl], _, 32, rfl, Nat.le_refl _, by unfold maxLen; omega, (fun e => nomatch e), fun _ => ⟨g, off, rfl, World.block_lt_of_cell? _ _ (by
    have := h.2 0 (by omega)
    rw [Nat.add_zero] at this
    rw [List.getElem?_map, List.getElem?_eq_getElem (by omega)] at this
    exact this), fun j hj => h.2 j (by omega)⟩⟩
/-- Four items in a block just made. -/
theorem items_four {w : World} {a b c d : It} {va vb vc vd : Value} (ha : Bytes w va a.2) (hb : Bytes w vb b.2) (hc : Bytes w vc c.2) (hd : Bytes w vd d.2) :
    Items (w.alloc (.cells #[.int .i64 a.1, va, .int .i64 b.1, vb, .int .i64 c.1, vc, .int .i64 d.1, vd] 79)) (.slice (some ⟨w.heap.size, 0, none⟩) 4 4) [a, b, c, d] := by
  have hg := heap_alloc_new w (.cells #[.int .i64 a.1, va, .int .i64 b.1, vb, .int .i64 c.1, vc, .int .i64 d.1, vd] 79)
  refine ⟨some ⟨w.heap.size, 0, none⟩, 4, rfl, Nat.le_refl _, by unfold maxLen; omega, (fun e => nomatch e), fun _ => ⟨_, 0, rfl, by simp, fun i hi => ?_⟩⟩
  simp only [List.length_cons, List.length_nil] at hi
  rcases (by omega : i = 0 ∨ i = 1 ∨ i = 2 ∨ i = 3) with rfl | rfl | rfl | rfl
  · exact ⟨by simp only [World.cell?, hg]; rfl, va, by simp only [World.cell?, hg]; rfl, ha.of_alloc _⟩
  · exact ⟨by simp only [World.cell?, hg]; rfl, vb, by simp only [World.cell?, hg]; rfl, hb.of_alloc _⟩
  · exact ⟨by simp only [World.cell?, hg]; rfl, vc, by simp only [World.cell?, hg]; rfl, hc.of_alloc _⟩
  · exact ⟨by simp only [World.cell?, hg]; rfl, vd, by simp only [World.cell?, hg]; rfl, hd.of_alloc _⟩

theorem wp_build4 {w : World} {o : Oper} {a : Act} {K : Act → World → Prop} {Q : Exit → Act → World → Prop} (p0 p1 p2 p3 : Operand) (x0 x1 x2 x3 : It) (v0 v1 v2 v3 : Value) (ho : o.op = .buildSlice 74 4 #[(0, p0), (1, p1), (2, p2), (3, p3)])
    (h0 : a.eval p0 = .agg #[.int .i64 x0.1, v0]) (h1 : a.eval p1 = .agg #[.int .i64 x1.1, v1]) (h2 : a.eval p2 = .agg #[.int .i64 x2.1, v2]) (h3 : a.eval p3 = .agg #[.int .i64 x3.1, v3])
    (b0 : Bytes w v0 x0.2) (b1 : Bytes w v1 x1.2) (b2 : Bytes w v2 x2.2) (b3 : Bytes w v3 x3.2)
    (h : ∀ w', Items w' (.slice (some ⟨w.heap.size, 0, none⟩) 4 4) [x0, x1, x2, x3] → Below w.heap.size w w' → w'.heap.size = w.heap.size + 1 → K (a.put o.dst (.slice (some ⟨w.heap.size, 0, none⟩) 4 4)) w') : o.wp Tryd.prog a w K Q := by
  obtain ⟨i, hi, hz, hsize, hby⟩ := info_parts infoItem
  refine wp_buildSlice 74 79 4 _ ho #[.int .i64 x0.1, v0, .int .i64 x1.1, v1, .int .i64 x2.1, v2, .int .i64 x3.1, v3] i _ Tryd.underlying74 hi hz (by rw [hsize]; omega) (by rw [hsize]; omega) ?_ (h _ (items_four b0 b1 b2 b3) ((Below.refl _ w).alloc (Nat.le_refl _) _) (by simp))
  rw [hsize]
  simp only [List.map_toArray, List.map_cons, List.map_nil, h0, h1, h2, h3]
  rw [show [((0 : Nat), Value.agg #[.int .i64 x0.1, v0]), (1, .agg #[.int .i64 x1.1, v1]), (2, .agg #[.int .i64 x2.1, v2]), (3, .agg #[.int .i64 x3.1, v3])] = ([Value.agg #[.int .i64 x0.1, v0], .agg #[.int .i64 x1.1, v1], .agg #[.int .i64 x2.1, v2], .agg #[.int .i64 x3.1, v3]].zipIdx 0).map (fun x => (x.2, x.1)) from rfl]
  rw [Great.fill_whole (by omega) _ _ (fun v hv => by
    simp only [List.mem_cons, List.not_mem_nil, or_false] at hv
    rcases hv with rfl | rfl | rfl | rfl <;> rfl) (by simp)]
  rfl

/-- What Encode hands back. -/
def EncIPost (w : World) (l : List BlobL) (e : Ending) (w' : World) : Prop := ∃ v, e = .returned (.tuple #[v, .int .i64 (encGE l)]) ∧ Bytes w' v ((encG l).getD []) ∧ Below w.heap.size w w'
theorem encG_bad {w w' : World} {l : List BlobL} (h : imageE l ≠ 0) (hb : Below w.heap.size w w') : EncIPost w l (.returned (.tuple #[.slice none 0 0, .int .i64 (imageE l)])) w' :=
  ⟨_, by unfold encGE; rw [if_neg h], by unfold encG; rw [if_neg h]; exact Bytes.of_nil, hb⟩
theorem encG_post {w w1 w' : World} {l : List BlobL} {e : Ending} (h : imageE l = 0) (he : EncPost w1 (encL (imgIts l)) e w') (hb : Below w.heap.size w w1) : EncIPost w l e w' := by
  unfold EncIPost encGE encG
  rw [if_pos h, if_pos h]
  cases hc : encL (imgIts l) with
  | none =>
    rw [hc] at he
    obtain ⟨h1, v, rfl⟩ := he
    exact ⟨_, rfl, Bytes.of_nil, below_next hb h1⟩
  | some c =>
    rw [hc] at he
    obtain ⟨h1, v, rfl, ho⟩ := he
    exact ⟨_, rfl, ho.bytes, below_next hb h1⟩

/-- Ahead of each round. -/
def EncIM (w0 : World) (l : List BlobL) (lv iv : Value) (W : World) : Prop := ∃ (k : Nat) (its : List ItV), k ≤ l.length ∧ iv = .int .i64 k ∧ its.map (·.1) = imgIts (l.take k) ∧ its.length = k ∧ OwnIt W w0.heap.size lv its ∧ Below w0.heap.size w0 W

set_option maxHeartbeats 6400000 in
theorem EncImg_any (v : Value) (l : List BlobL) (w : World) (hl : RBlob.Row w v l) : Calls Tryd.prog 28 #[.agg #[v]] w (EncIPost w l) := by
  obtain ⟨a, c, hv⟩ := hl.len
  subst hv
  have hle := hl.le
  obtain ⟨W, hW⟩ : ∃ W, w.alloc (.cells #[.slice a l.length c] 52) = W := ⟨_, rfl⟩
  have ho : One W w.heap.size (.slice a l.length c) 52 := by rw [← hW]; exact heap_alloc_new w _
  have hb : Below w.heap.size w W := by rw [← hW]; exact (Below.refl _ w).alloc (Nat.le_refl _) _
  have hc1 := ho.cell
  have hI := Image_any _ l W (hl.of_new hb)
  have HL := Lib.hid (hl.of_new hb)
  have HO := Lib.hid ho
  have HW := Lib.hid hW
  have HB := Lib.hid hb
  have HI := Lib.hid hI
  have hls := ho.lt
  clear hl ho hW hb hI
  obtain ⟨E, hE⟩ : ∃ E, imageE l = E := ⟨_, rfl⟩
  rw [hE] at HI
  have HE := Lib.hid hE
  by_cases h0 : E = 0
  case neg =>
    have HN := Lib.hid (show imageE l ≠ 0 by rw [hE]; exact h0)
    have t1 : (E == 0) = false := beq_eq_false_iff_ne.2 h0
    have t2 : (E != 0) = true := bne_iff_ne.2 h0
    clear hE h0
    go_enter Tryd.func28, Tryd.ntmps28
    go_upto_region 1 with (fail)
    rw [HW.out]
    go_wp2_with (go_at_call 35; refine HI.out.mono ?_; rintro e w2 ⟨rfl, hb2⟩; have HB2 := Lib.hid (below_next HB.out hb2); clear hb2)
    go_ret2
    rw [← HE.out]
    exact encG_bad HN.out HB2.out
  subst h0
  have HR := Lib.hid (image_rights hE)
  have h16 : l.length ≤ 16 := by
    unfold imageE at hE
    split at hE
    · cases hE
    · omega
  clear hE
  go_enter Tryd.func28, Tryd.ntmps28
  go_upto_region 1 with (fail)
  rw [HW.out]
  go_wp2_with (go_at_call 35; refine HI.out.mono ?_; rintro e w2 ⟨rfl, hb2⟩; have hc2 := Grew.cell hb2 hc1; have HB2 := Lib.hid (below_next HB.out hb2); have HL2 := Lib.hid (HL.out.of_new hb2); clear hb2)
  go_loopw [5, 6, 7, 8, 9, 10, 11, 20] (fun lv _ _ _ _ _ _ iv W' => EncIM w2 l lv iv W') (fun _ _ _ _ _ _ _ iv _ => l.length - (intOf iv).toNat)
  case atStart => exact ⟨0, [], Nat.zero_le _, rfl, by simp [imgIts, imgItsF], rfl, OwnIt.nil _ _, Below.refl _ _⟩
  case round =>
    obtain ⟨k, its, hk, rfl, hit, hil, hown, hbr⟩ := hrel
    obtain ⟨la, lc, hv⟩ := hown.len
    subst hv
    by_cases hlt : k < l.length
    · obtain ⟨b, off, c', hv, hbl, hc⟩ := HL2.out.at_ (by omega)
      obtain ⟨rfl, rfl⟩ : a = some ⟨b, off, none⟩ ∧ c = c' := by cases hv; exact ⟨rfl, rfl⟩
      obtain ⟨y, hy⟩ : ∃ y, l[k]? = some y := ⟨_, List.getElem?_eq_getElem hlt⟩
      have hat := (hc k y hy).of_new hbr
      have hyo := hat.1
      have hyr := right_bd (HR.out y (List.mem_of_getElem? hy))
      have hki : (k : Int) < (l.length : Int) := by omega
      have hk16 : (k : Int) ≤ 16 := by omega
      have hst := imgIts_step hy
      obtain ⟨n, hn⟩ : ∃ n : Nat, y.size = (n : Int) := ⟨y.size.toNat, by omega⟩
      obtain ⟨q, hq⟩ : ∃ q : Nat, y.piece = (q : Int) := ⟨y.piece.toNat, by omega⟩
      have hnq : n ≤ 1048576 ∧ q ≤ 1048576 := by omega
      have HY := Lib.hid hy
      have HIT := Lib.hid hit
      have HIL := Lib.hid hil
      have HWN := Lib.hid hown
      have HBR := Lib.hid hbr
      have HAT := Lib.hid hat
      have HYO := Lib.hid hyo
      have HYR := Lib.hid hyr
      have HST := Lib.hid hst
      have HN := Lib.hid hn
      have HQ := Lib.hid hq
      have HNQ := Lib.hid hnq
      clear hv hc hy hit hil hown hbr hat hyo hyr hst hn hq hnq
      go_upto_region 8 with (first
        | ((with_reducible refine wpList_plain (o := ⟨some 24, Op.load _ _, _, _, _, _⟩) rfl fun K hK => ?_); (refine HAT.out.wp rfl rfl (hK _ _ ?_)))
        | ((with_reducible refine wpList_plain (o := ⟨some 7, Op.alloc _, _, _, _, _⟩) rfl fun K hK => ?_); (refine RBlob.wp_alloc rfl fun w4 ho4 hb4 hs4 => hK _ _ ?_); have HO4 := Lib.hid ho4; have HB4 := Lib.hid hb4; clear ho4 hb4 hs4)
        | ((with_reducible refine wpList_plain (o := ⟨none, Op.store _ (.tmp 7) (.tmp 24), _, _, _, _⟩) rfl fun K hK => ?_); (refine HO4.out.store (.tmp 7) (.tmp 24) rfl rfl rfl HYO.out fun w5 ho5 hg5 hs5 => hK _ _ ?_); have hb5 := HB4.out.grown hg5 (by have := HB4.out.size; omega) (fun k e => by cases e; exact Nat.le_refl _); have HO5 := Lib.hid ho5; have HB5 := Lib.hid hb5; clear ho5 hg5 hs5 hb5))
      have hyO := HO5.out.blobO
      have c32 := hyO.size
      have c33 := hyO.piece
      rw [HN.out] at c32
      rw [HQ.out] at c33
      have hwn : IntKind.u64.wrap (n : Int) = (n : Int) := by have := HNQ.out; simp [IntKind.wrap, IntKind.bits, IntKind.signed]; omega
      have hwq : IntKind.u64.wrap (q : Int) = (q : Int) := by have := HNQ.out; simp [IntKind.wrap, IntKind.bits, IntKind.signed]; omega
      have hbx := Below.refl w5.heap.size w5
      have hn64 : n < 18446744073709551616 := by have := HNQ.out; omega
      have hq64 : q < 18446744073709551616 := by have := HNQ.out; omega
      have hls5 := HO5.out.lt
      clear hyO
      go_upto_region 8 with (fail)
      try simp only [Act.put]
      try go_frame
      go_cut [8, 9] (fun v8 v9 W' => Own8 W' w5.heap.size 5 v8 (uint n) ∧ Own8 W' w5.heap.size 5 v9 (uint q) ∧ Below w5.heap.size w5 W')
      case first =>
        go_region_with (first
          | (go_at_call 51; (with_reducible refine (Uint_at _ n _ rfl hn64).mono ?_); rintro e w6 ⟨v6, rfl, ho6, hb6⟩; (try replace c32 := Grew.cell hb6 c32); (try replace c33 := Grew.cell hb6 c33); (try replace ho7 := ho7.new hb6); (first | replace hbx := below_next hbx.drew hb6 | replace hbx := below_next hbx hb6))
          | (go_at_call 51; (with_reducible refine (Uint_at _ q _ rfl hq64).mono ?_); rintro e w7 ⟨v7, rfl, ho7, hb7⟩; (try replace c32 := Grew.cell hb7 c32); (try replace c33 := Grew.cell hb7 c33); (try replace ho6 := ho6.new hb7); (first | replace hbx := below_next hbx.drew hb7 | replace hbx := below_next hbx hb7)))
        all_goals
          go_wp2_with fail
          go_meet
          have hdr : w5.drew.heap.size = w5.heap.size := rfl
          have hz6 := hb6.size
          have hz7 := hb7.size
          exact ⟨ho6.mono (by omega), ho7.mono (by omega), hbx⟩
      case rest =>
        rename World => w6
        obtain ⟨ho8, ho9, hb6⟩ := hcut
        obtain ⟨a8, c8, hv⟩ := ho8.bytes.len
        subst hv
        obtain ⟨a9, c9, hv⟩ := ho9.bytes.len
        subst hv
        have HO6 := Lib.hid (HO5.out.of_new hb6)
        have HO8 := Lib.hid ho8
        have HO9 := Lib.hid ho9
        have HB6 := Lib.hid (below_next HB5.out hb6)
        clear ho8 ho9 hb6 c32 c33 hbx hwn hwq
        have hyb := HO6.out.blobO
        have HD7 := Lib.hid hyb.dig.bytes
        have HR7 := Lib.hid hyb.root.bytes
        have hits : blobIts y = [(1, y.dig), (2, uint n), (3, uint q), (4, y.root)] := by unfold blobIts; rw [HN.out, HQ.out]; rfl
        have hyr := HYR.out
        have henc : encL (blobIts y) = some (blobB y) := enc_blob HYO.out ⟨by omega, by omega⟩ ⟨by omega, by omega⟩
        rw [hits] at henc
        have HEN := Lib.hid henc
        clear hyb hits hyr henc
        go_upto_region 9 with (fail)
        go_region_with (go_at_call 52; refine (Encode_any _ [(1, y.dig), (2, uint n), (3, uint q), (4, y.root)] _ (by exact items_four HD7.out HO8.out.bytes HO9.out.bytes HR7.out)).mono ?_; intro e w9 hp; rw [HEN.out] at hp; obtain ⟨hb9, v9, rfl, ho9⟩ := hp)
        have hdr : (w6.alloc (.cells #[.int .i64 1, .slice (some ⟨wr.heap.size, 0, none⟩) 32 32, .int .i64 2, .slice a8 (uint n).length c8, .int .i64 3, .slice a9 (uint q).length c9, .int .i64 4, .slice (some ⟨wr.heap.size, 34, none⟩) 32 32] 79)).drew.heap.size = w6.heap.size + 1 := by simp [World.drew]
        have hlo := ho9.lt
        rw [hdr] at hlo
        have HB9 := Lib.hid (below_next ((HB6.out.alloc HB6.out.size _).drew) hb9)
        obtain ⟨a10, c10, hv⟩ := ho9.bytes.len
        subst hv
        have HV9 := Lib.hid ho9.bytes
        have HLO := Lib.hid hlo
        have hs6 := HB6.out.size
        have hs9 := HB9.out.size
        have hsr := HBR.out.size
        clear hb9 ho9 hdr hlo
        go_wp2_with (first
          | ((with_reducible refine wpList_plain (o := ⟨some 54, _, _, _, _, _⟩) rfl fun K hK => ?_); refine wp_appIt (.tmp 48) (.tmp 53) rfl w2.heap.size _ its (((k : Int) + 1, blobB y), .slice a10 (blobB y).length c10) w9.heap.size rfl ((HWN.out.of_new HB9.out).of_new ((Below.refl _ w9).alloc (Nat.le_refl _) _)) rfl (HV9.out.of_new ((Below.refl _ w9).alloc (Nat.le_refl _) _)) (fun z hz => ⟨by have := (HLO.out z hz).2; simp; omega, fun e => by have := (HWN.out.lt z e).2; have := (HLO.out z hz).1; omega⟩) (heap_alloc_new w9 _) (by have := HIL.out; omega) (by simp; omega) ?_; intro v11 w11 ho11 hg11 hn11; refine hK _ _ ?_; obtain ⟨a11, c11, hv11⟩ := ho11.len; subst hv11; have HO11 := Lib.hid ho11; have HG11 := Lib.hid hg11; clear ho11 hg11 hn11 hK))
        go_roundw
        case rel =>
          refine ⟨k + 1, its ++ [(((k : Int) + 1, blobB y), .slice a10 (blobB y).length c10)], by omega, by go_num, ?_, by have := HIL.out; simp; omega, by have h := HO11.out; rw [List.length_append, List.length_singleton] at h; exact h, (below_next HBR.out ((HB9.out).alloc HB9.out.size _)).grown HG11.out (by simp; omega) (fun z hz => (HWN.out.lt z hz).1)⟩
          rw [List.map_append, HIT.out, HST.out]
          rfl
        case measure => simp [intOf]; omega
    · obtain rfl : k = l.length := by omega
      rw [List.take_length] at hit
      have hI := hown.items
      rw [hit] at hI
      have hEn := Encode_any _ _ wr hI
      have HEn := Lib.hid hEn
      have HBR := Lib.hid (below_next HB2.out hbr)
      clear hI hit hil hown hEn hbr
      go_wp2_with fail
      refine HEn.out.mono ?_
      intro e w4 hp
      have hq := encG_post HE.out hp HBR.out
      obtain ⟨v4, rfl, hv4, hb4⟩ := hq
      have HV4 := Lib.hid hv4
      have HB4 := Lib.hid hb4
      clear hp hv4 hb4
      go_wp2
      go_ret2
      exact ⟨_, rfl, HV4.out, HB4.out⟩

end Go.Proofs.YtnomekfemadpeaaDoor
