/- The walk of the reference's Decode of an image. No condition. -/
import Derived.Test.YtnomekfemadpeaaDoorMfRefFew
import Derived.Test.YtnomekfemadpeaaDoorMfRefEncI
import Derived.Test.YtnomekfemadpeaaDoorMfDecImg
import Derived.Test.YtnomekfemadpeaaDoorTlvRefDec
import Derived.Test.YtnomekfemadpeaaDoorRegionEarly
import Derived.Test.YtnomekfemadpeaaDoorStr
import Derived.IntWalk
namespace Go.Proofs.YtnomekfemadpeaaDoor
open Go.RowKit
set_option linter.unusedVariables false
set_option linter.unusedSimpArgs false
set_option maxRecDepth 100000

theorem rblobs_append : ∀ (a b : List It), rblobs (a ++ b) = (rblobs a).bind fun xs => (rblobs b).map (xs ++ ·)
  | [], b => by simp [rblobs]
  | x :: a, b => by
    have ih := rblobs_append a b
    simp only [List.cons_append, rblobs, ih]
    cases decL x.2 with
    | none => rfl
    | some y =>
      simp only [Option.bind_some]
      cases rblobs a with
      | none => rfl
      | some xs => cases rblobs b <;> rfl
theorem rblobs_snoc {l : List It} {k : Nat} {x : It} {xs : List BlobL} {y : List It} (hx : l[k]? = some x) (h : rblobs (l.take k) = some xs) (hb : decL x.2 = some y) : rblobs (l.take (k + 1)) = some (xs ++ [rblob y]) := by
  rw [List.take_add_one, hx, rblobs_append, h, Option.bind_some]
  simp [rblobs, hb]
theorem rblobs_stop {l : List It} {k : Nat} {x : It} (hx : l[k]? = some x) (hb : decL x.2 = none) : rblobs l = none := by
  have hk : k < l.length := (List.getElem?_eq_some_iff.1 hx).1
  have hd : l = l.take k ++ (x :: l.drop (k + 1)) := by
    rw [List.getElem?_eq_getElem hk] at hx
    cases hx
    rw [← List.drop_eq_getElem_cons hk, List.take_append_drop]
  rw [hd, rblobs_append]
  cases rblobs (l.take k) with
  | none => rfl
  | some xs => simp [rblobs, hb]
theorem rblobs_len : ∀ (l : List It) (xs : List BlobL), rblobs l = some xs → xs.length = l.length
  | [], xs, h => by simp [rblobs] at h; subst h; rfl
  | x :: l, xs, h => by
    simp only [rblobs] at h
    cases hb : decL x.2 with
    | none => rw [hb] at h; cases h
    | some y =>
      rw [hb, Option.bind_some] at h
      cases hr : rblobs l with
      | none => rw [hr] at h; cases h
      | some r => rw [hr] at h; simp at h; subst h; simp [rblobs_len l r hr]

theorem encGE_zero (l : List BlobL) : encGE l = 0 ↔ (encG l).isSome := by
  unfold encGE encG
  split
  · split <;> simp_all
  · simp_all
/-- Ahead of each round. -/
def RDecIM (W2 : World) (g : Nat) (l : List It) (iv : Value) (W : World) : Prop := ∃ (k : Nat) (xs : List BlobL) (v : Value), k ≤ l.length ∧ iv = .int .i64 k ∧ rblobs (l.take k) = some xs ∧ One W g v 52 ∧ RBlob.Own W (g + 1) v xs ∧ Below W2.heap.size W2 W

set_option maxHeartbeats 6400000 in
theorem RDecImg_any (v : Value) (b : List UInt8) (w : World) (hl : Bytes w v b) : Calls Tryd.prog 33 #[v] w (ImgDPost w (rimgD b)) := by
  obtain ⟨va, vc, hv⟩ := hl.len
  subst hv
  have hD := fun W (h : Bytes W (.slice va b.length vc) b) => refDecode_own _ b W h
  have HL := Lib.hid hl
  clear hl
  rcases hd : decL b with _ | l
  · have HDN := Lib.hid (show rimgD b = none by unfold rimgD; rw [hd]; rfl)
    rw [hd] at hD
    have HDD := Lib.hid hD
    clear hd hD
    go_enter Tryd.func33, Tryd.ntmps33
    go_wp2_with (first
      | ((with_reducible refine wpList_plain (o := ⟨some 2, Op.alloc _, _, _, _, _⟩) rfl fun K hK => ?_); (refine RImg.wp_alloc rfl fun w1 ho1 hb1 hs1 => hK _ _ ?_); have HO1 := Lib.hid ho1; have HB1 := Lib.hid hb1; clear ho1 hb1 hs1)
      | (go_at_call 57; refine (HDD.out _ (HL.out.of_new HB1.out)).mono ?_; rintro e w2 ⟨v2, pre, base, rfl, hown, hpre, hb2, hbase⟩; have HRR := Lib.hid (HO1.out.of_new hb2); have HBW := Lib.hid (below_next HB1.out hb2); clear hown hpre hb2 hbase)
      | ((with_reducible refine wpList_plain (o := ⟨some 19, Op.build _ _, _, _, _, _⟩) rfl fun K hK => ?_); (refine wp_val (v := RImg.V (.slice none 0 0)) (by unfold execOp; simp only [List.map_toArray, List.map_nil, build_img0, Sem.run_bind, Result.andThen_ok, Sem.run_pure]; rfl) (hK _ _ ?_)))
          | ((with_reducible refine wpList_plain (o := ⟨none, Op.store _ (.tmp 2) (.tmp 19), _, _, _, _⟩) rfl fun K hK => ?_); (refine HRR.out.store (.tmp 2) (.tmp 19) rfl rfl rfl (show RImg.ok (.slice none 0 0) from rfl) fun wF hOF hgF hsF => hK _ _ ?_); have HOF := Lib.hid hOF; have HGF := Lib.hid hgF; clear hOF hgF hsF))
    refine bodyPost_ret (RecT.results2 rfl _ rfl rfl HOF.out) rfl ?_
    exact imgD_fail HDN.out (HBW.out.grown HGF.out (by have := HBW.out.size; omega) (fun k e => by cases e; omega))
  have HDEC := Lib.hid (show rimgD b = (rblobs l).bind fun xs => if encG xs = some b then some xs else none by unfold rimgD; rw [hd]; rfl)
  have hEB := encL_decL hd
  have hble : b.length ≤ 65536 := encL_le hEB
  have hll : l.length ≤ 65536 := by
    have hfl : b = flatB l := by have := (encF_parts l 0 [] b (by simp) hEB).1; simpa using this
    have := flatB_ge l
    rw [← hfl] at this; omega
  clear hEB
  rw [hd] at hD
  have HDD := Lib.hid hD
  clear hd hD
  go_enter Tryd.func33, Tryd.ntmps33
  go_upto_region 4 with (first
      | ((with_reducible refine wpList_plain (o := ⟨some 2, Op.alloc _, _, _, _, _⟩) rfl fun K hK => ?_); (refine RImg.wp_alloc rfl fun w1 ho1 hb1 hs1 => hK _ _ ?_); have HO1 := Lib.hid ho1; have HB1 := Lib.hid hb1; clear ho1 hb1 hs1)
      | (go_at_call 57; refine (HDD.out _ (HL.out.of_new HB1.out)).mono ?_; rintro e w2 ⟨v2, pre, base, rfl, hown, hpre, hb2, hbase⟩; have HO2 := Lib.hid (HO1.out.of_new hb2); have HB2 := Lib.hid (below_next HB1.out hb2); clear hb2 hbase))
  rw [Option.getD_some] at hpre
  have hlen : pre.length = l.length := by rw [← hpre]; simp
  obtain ⟨va2, vc2, hv⟩ := hown.len
  subst hv
  rw [hlen]
  have HOWN := Lib.hid hown
  have HPRE := Lib.hid hpre
  have HLEN := Lib.hid hlen
  obtain ⟨g, hg⟩ : ∃ g, w2.heap.size = g := ⟨_, rfl⟩
  have HG := Lib.hid hg
  have hwg : w.heap.size < g := by rw [← hg]; exact HO2.out.lt
  clear hown hpre hlen hg
  go_wp2_with (first
      | ((with_reducible refine wpList_plain (o := ⟨some 6, Op.alloc _, _, _, _, _⟩) rfl fun K hK => ?_); (refine RImg.wp_alloc rfl fun w3 ho3 hb3 hs3 => hK _ _ ?_); rw [HG.out] at ho3 hs3 ⊢; have HO3 := Lib.hid ho3; have HB3 := Lib.hid hb3; have HS3 := Lib.hid hs3; clear ho3 hb3 hs3))
  go_loopw [7, 8, 9] (fun iv _ _ W' => RDecIM w2 g l iv W') (fun iv _ _ _ => l.length - (intOf iv).toNat)
  case atStart => exact ⟨0, [], _, Nat.zero_le _, rfl, rfl, RImg_one HO3.out, RecT.Own.nil _ _, HB3.out⟩
  case round =>
    obtain ⟨k, xs, v, hk, rfl, hxs, hone, hown, hbr⟩ := hrel
    have hgl := hone.lt
    by_cases hlt : k < l.length
    · obtain ⟨x, hx⟩ : ∃ x, l[k]? = some x := ⟨_, List.getElem?_eq_getElem hlt⟩
      obtain ⟨pg, pc, hv, hpg, hcell⟩ := HOWN.out.cellsAt (by rw [HLEN.out]; omega)
      rw [HPRE.out, HLEN.out] at hcell
      rw [HLEN.out] at hv
      obtain ⟨rfl, rfl⟩ : va2 = some ⟨pg, 0, none⟩ ∧ vc2 = pc := by simp only [Value.slice.injEq] at hv; exact ⟨hv.1, hv.2.2⟩
      obtain ⟨hn, u, hu, hub, -⟩ := hcell k hlt
      rw [show l.getD k (0, []) = x by simp [List.getD, hx]] at hn hub
      have hur := (hbr.cell (p := ⟨pg, k * 2 + 1, none⟩) hpg).trans hu
      have hubr := hub.of_new hbr
      have hB := fun W h => refDecode_own u x.2 W h
      have hki : (k : Int) < (l.length : Int) := by omega
      have HX := Lib.hid hx
      have HXS := Lib.hid hxs
      have HONE := Lib.hid hone
      have HWN := Lib.hid hown
      have HBR := Lib.hid hbr
      have HUB := Lib.hid hubr
      have HB := Lib.hid hB
      have hstop := fun h => rblobs_stop HX.out h
      clear hv hcell hn hu hub hubr hB hx hxs hone hown hbr
      rcases hbd : decL x.2 with _ | y
      · have HDN := Lib.hid (show rimgD b = none by rw [HDEC.out, hstop hbd]; rfl)
        rw [hbd] at HB
        clear hbd hstop
        go_wp2_with (first
          | (go_at_call 57; refine (HB.out _ HUB.out).mono ?_; rintro e w4 ⟨v4, pre4, base4, rfl, hown4, hpre4, hb4, hbase4⟩; have HRR := Lib.hid ((HO2.out.of_new HBR.out).of_new hb4); have HBW := Lib.hid (below_next HB2.out (below_next HBR.out hb4)); clear hown4 hpre4 hb4 hbase4)
          | ((with_reducible refine wpList_plain (o := ⟨some 37, Op.build _ _, _, _, _, _⟩) rfl fun K hK => ?_); (refine wp_val (v := RImg.V (.slice none 0 0)) (by unfold execOp; simp only [List.map_toArray, List.map_nil, build_img0, Sem.run_bind, Result.andThen_ok, Sem.run_pure]; rfl) (hK _ _ ?_)))
          | ((with_reducible refine wpList_plain (o := ⟨none, Op.store _ (.tmp 2) (.tmp 37), _, _, _, _⟩) rfl fun K hK => ?_); (refine HRR.out.store (.tmp 2) (.tmp 37) rfl rfl rfl (show RImg.ok (.slice none 0 0) from rfl) fun wF hOF hgF hsF => hK _ _ ?_); have HOF := Lib.hid hOF; have HGF := Lib.hid hgF; clear hOF hgF hsF))
        refine bodyPost_ret (RecT.results2 rfl _ rfl rfl HOF.out) rfl ?_
        exact imgD_fail HDN.out (HBW.out.grown HGF.out (by have := HBW.out.size; omega) (fun k e => by cases e; omega))
      · rw [hbd] at HB
        have HBD := Lib.hid hbd
        clear hbd hstop
        go_upto_region 11 with (first
          | (go_at_call 57; refine (HB.out _ HUB.out).mono ?_; rintro e w4 ⟨v4, pre4, base4, rfl, hown4, hpre4, hb4, hbase4⟩; rw [Option.getD_some] at hpre4; have hit := hown4.items; rw [hpre4] at hit; have HIT := Lib.hid hit; have hone4 := HONE.out.of_new hb4; have HONE4 := Lib.hid hone4; have HWN4 := Lib.hid (HWN.out.of_new hb4); have HB24 := Lib.hid (below_next HBR.out hb4); clear hown4 hpre4 hb4 hbase4 hit))
        have HLX := Lib.hid (show xs.length = k by have := rblobs_len _ _ HXS.out; rw [List.length_take] at this; omega)
        have hco : ∀ w', Grew w4 w' → w'.cell? ⟨g, 0, none⟩ = some v := fun w' h => (HONE4.out.of_new h).cell
        have HST := Lib.hid (rblobs_snoc HX.out HXS.out HBD.out)
        have HYB := Lib.hid (show RBlob.ok (rblob y) from rblob_ok y)
        clear hone4
        refine (wpIn_wide (n := 5)).1 ?_
        refine wpIn_region_early (ro := none) (C := Grew w4) 2 11 12 (by kernel_rfl) (by kernel_rfl) (Grew.start _) (fun c a d v w h => by cases d <;> exact h) ?_
        simp only [List.take_succ_cons, List.take_zero, List.drop_succ_cons, List.drop_zero]
        go_simp
        repeat (first
          | (go_big_quiet_want; (refine quiet_build_blob (rhash y 1) (rhash y 4) (rnum y 2) (rnum y 3) rfl rfl rfl rfl rfl (rhash_len y 1) (rhash_len y 4) ?_); go_simp; go_big_quiet_on)
          | (go_big_quiet_want; apply quiet_val; (intro w' hw'; go_simp; first | done | rfl); go_simp; go_big_quiet_on)
          | (go_big_quiet_want; apply quiet_call (f := 58); (intro w' hw'; go_simp; first | done | rfl); (intro w' hw'; exact Grew.call hw' (RHash_any _ y _ w' (HIT.out.of_new hw'))); go_simp; go_big_quiet_on)
          | (go_big_quiet_want; apply quiet_call (f := 59); (intro w' hw'; go_simp; first | done | rfl); (intro w' hw'; exact Grew.call hw' (RNum_any _ y _ w' (HIT.out.of_new hw'))); go_simp; go_big_quiet_on)
          | (go_big_quiet_skip))
        refine wpQuiet_nil ?_
        intro w5 hw5
        refine LateL.cons rfl (RBlob.wp_build1 (x := rblob y) Tryd.underlying50 (.tmp 48) HYB.out rfl rfl ?_)
        intro w6 ho6 hb6 hs6
        have hw6 : Below w4.heap.size w4 w6 := below_next hw5 hb6
        refine ⟨hw6, ?_⟩
        refine LateL.nil ?_
        rw [wF_none]
        have HONE6 := HONE4.out.of_new hw6
        have HWN6 := HWN4.out.of_new hw6
        refine wpListIn_of_wp rfl (fun c hc => by cases hc) (HWN6.app Tryd.underlying50 (.tmp 39) (.tmp 49) rfl rfl rfl ho6.row (by have := HLX.out; simp; omega) (by have := HONE6.lt; omega) ?_)
        intro v7 w7 ho7 hg7 hu7
        obtain ⟨a7, c7, hv7⟩ := ho7.row.len
        subst hv7
        have hone7 := HONE6.grown hg7 (fun e => by have := (HWN6.lt g e.symm).1; omega)
        have hc7 := hone7.cell
        have hf7 := hone7.free
        have hone8 : One (w7.setCell ⟨g, 0, none⟩ (.slice a7 (xs ++ [rblob y]).length c7)) g (.slice a7 (xs ++ [rblob y]).length c7) 52 := hone7.set _
        have hown8 : RBlob.Own (w7.setCell ⟨g, 0, none⟩ (.slice a7 (xs ++ [rblob y]).length c7)) (g + 1) (.slice a7 (xs ++ [rblob y]).length c7) (xs ++ [rblob y]) :=
          ho7.kept fun q hq => Below.heap_setCell _ _ _ _ (by have := (ho7.lt q hq).1; show q ≠ g; omega)
        have hb8 : Below w2.heap.size w2 (w7.setCell ⟨g, 0, none⟩ (.slice a7 (xs ++ [rblob y]).length c7)) := by
          have h6 : Below w2.heap.size w2 w6 := below_next HB24.out hw6
          have h7 := h6.grown hg7 (by have := h6.size; omega) (fun q hq => by have := (HWN6.lt q hq).1; have := HG.out; omega)
          rw [HG.out] at h7 ⊢
          exact below_set h7 _
        rw [List.length_append, List.length_singleton] at hone8 hown8 hb8 ⊢
        have HONE8 := Lib.hid hone8
        have HOWN8 := Lib.hid hown8
        have HB8 := Lib.hid hb8
        clear hone8 hown8 hb8 hone7 hg7 hu7 ho7 HONE6 HWN6 hw6 ho6 hb6 hs6 hw5 hco
        rw [wF_none]
        gi_wp2
        go_wp2
        go_roundw
        case rel => exact ⟨k + 1, _, _, by omega, by go_num, HST.out, HONE8.out, HOWN8.out, HB8.out⟩
        case measure => simp [intOf]; omega
    · obtain rfl : k = l.length := by omega
      rw [List.take_length] at hxs
      have hde := HDEC.out
      rw [hxs, Option.bind_some] at hde
      have hone' : RImg.O wr g v := one_RImg hone (by obtain ⟨a, c, h⟩ := hown.row.len; rw [h]; rfl)
      have HEN := Lib.hid (REncImg_any v xs wr hown.row)
      have HIMG := Lib.hid hone'
      have HWN := Lib.hid hown
      have HRW := Lib.hid (HO2.out.of_new hbr)
      have HBWR := Lib.hid (below_next HB2.out hbr)
      have hki : ¬ (l.length : Int) < (l.length : Int) := by omega
      clear hxs hown hbr hone hone'
      go_upto_region 13 with (first
        | ((with_reducible refine wpList_plain (o := ⟨some 53, Op.load _ _, _, _, _, _⟩) rfl fun K hK => ?_); (refine HIMG.out.at_.wp rfl rfl (hK _ _ ?_)))
        | (go_at_call 29; refine HEN.out.mono ?_; rintro e w8 ⟨v8, rfl, hv8, hb8⟩; obtain ⟨a8, c8, hv⟩ := hv8.len; subst hv; have HV8 := Lib.hid hv8; have HRR := Lib.hid (HRW.out.of_new hb8); have HIM8 := Lib.hid (HIMG.out.of_new hb8); have HWN8 := Lib.hid (HWN.out.of_new hb8); have HBW := Lib.hid (below_next HBWR.out hb8); clear hv8 hb8))
      have s1 := (HV8.out).string (P := Tryd.prog) (t := 22) (d := 9) Tryd.underlying22 Tryd.underlying5 Tryd.underlying9
      have s2 := (Bytes.of_new HL.out HBW.out).string (P := Tryd.prog) (t := 22) (d := 9) Tryd.underlying22 Tryd.underlying5 Tryd.underlying9
      have hsome : encGE xs = 0 ↔ (encG xs).isSome := encGE_zero xs
      obtain ⟨E, hE⟩ : ∃ E, encGE xs = E := ⟨_, rfl⟩
      rw [hE] at hsome ⊢
      obtain ⟨O, hO⟩ : ∃ O, encG xs = O := ⟨_, rfl⟩
      rw [hO] at hsome hde s1 HV8 ⊢
      clear hE hO
      rcases O with _ | c
      · have h0 : E ≠ 0 := fun h => by have := hsome.1 h; simp at this
        have HDN := Lib.hid (show rimgD b = none by rw [hde, if_neg (by simp)])
        have t1 : (E == 0) = false := beq_eq_false_iff_ne.2 h0
        have t2 : (E != 0) = true := bne_iff_ne.2 h0
        clear hde h0 hsome s1 s2
        go_wp2_with (first
          | ((with_reducible refine wpList_plain (o := ⟨some 66, Op.build _ _, _, _, _, _⟩) rfl fun K hK => ?_); (refine wp_val (v := RImg.V (.slice none 0 0)) (by unfold execOp; simp only [List.map_toArray, List.map_nil, build_img0, Sem.run_bind, Result.andThen_ok, Sem.run_pure]; rfl) (hK _ _ ?_)))
          | ((with_reducible refine wpList_plain (o := ⟨none, Op.store _ (.tmp 2) (.tmp 66), _, _, _, _⟩) rfl fun K hK => ?_); (refine HRR.out.store (.tmp 2) (.tmp 66) rfl rfl rfl (show RImg.ok (.slice none 0 0) from rfl) fun wF hOF hgF hsF => hK _ _ ?_); have HOF := Lib.hid hOF; have HGF := Lib.hid hgF; clear hOF hgF hsF))
        refine bodyPost_ret (RecT.results2 rfl _ rfl rfl HOF.out) rfl ?_
        exact imgD_fail HDN.out (HBW.out.grown HGF.out (by have := HBW.out.size; omega) (fun k e => by cases e; omega))
      have h0 : E = 0 := hsome.2 rfl
      subst h0
      rw [Option.getD_some] at s1 HV8 ⊢
      by_cases hcb : c = b
      · subst hcb
        have HDS := Lib.hid (show rimgD c = some xs by rw [hde, if_pos rfl])
        have e3 := str_same c
        have e4 : (c == c) = true := by simp
        have hvok := HIMG.out.2
        have HVOK := Lib.hid hvok
        clear hde hsome hvok
        go_wp2_with (first
          | ((with_reducible refine wpList_plain (o := ⟨some 67, Op.load _ _, _, _, _, _⟩) rfl fun K hK => ?_); (refine HIM8.out.at_.wp rfl rfl (hK _ _ ?_)))
          | ((with_reducible refine wpList_plain (o := ⟨none, Op.store _ (.tmp 2) (.tmp 67), _, _, _, _⟩) rfl fun K hK => ?_); (refine HRR.out.store (.tmp 2) (.tmp 67) rfl rfl rfl HVOK.out fun wF hOF hgF hsF => hK _ _ ?_); have HOF := Lib.hid hOF; have HGF := Lib.hid hgF; clear hOF hgF hsF))
        refine bodyPost_ret (RecT.results2 rfl _ rfl rfl HOF.out) rfl ?_
        refine ⟨v, by rw [HDS.out]; rfl, ?_, HBW.out.grown HGF.out (by have := HBW.out.size; omega) (fun k e => by cases e; omega)⟩
        rw [HDS.out]
        exact HWN8.out.row.of_kept HGF.out (fun q hq => by have := (HWN8.out.lt q hq).1; intro e; cases e; omega)
      · have HDN := Lib.hid (show rimgD b = none by rw [hde, if_neg (by simpa using hcb)])
        have e3 := str_eq c b
        rw [show decide (c = b) = false by simp [hcb]] at e3
        have e4 : (c == b) = false := by simp [hcb]
        have e5 : (c.toArray == b.toArray) = false := by simp [hcb]
        have e6 : decide (c = b) = false := by simp [hcb]
        clear hde hsome hcb
        go_wp2_with (first
          | ((with_reducible refine wpList_plain (o := ⟨some 66, Op.build _ _, _, _, _, _⟩) rfl fun K hK => ?_); (refine wp_val (v := RImg.V (.slice none 0 0)) (by unfold execOp; simp only [List.map_toArray, List.map_nil, build_img0, Sem.run_bind, Result.andThen_ok, Sem.run_pure]; rfl) (hK _ _ ?_)))
          | ((with_reducible refine wpList_plain (o := ⟨none, Op.store _ (.tmp 2) (.tmp 66), _, _, _, _⟩) rfl fun K hK => ?_); (refine HRR.out.store (.tmp 2) (.tmp 66) rfl rfl rfl (show RImg.ok (.slice none 0 0) from rfl) fun wF hOF hgF hsF => hK _ _ ?_); have HOF := Lib.hid hOF; have HGF := Lib.hid hgF; clear hOF hgF hsF))
        refine bodyPost_ret (RecT.results2 rfl _ rfl rfl HOF.out) rfl ?_
        exact imgD_fail HDN.out (HBW.out.grown HGF.out (by have := HBW.out.size; omega) (fun k e => by cases e; omega))

end Go.Proofs.YtnomekfemadpeaaDoor
