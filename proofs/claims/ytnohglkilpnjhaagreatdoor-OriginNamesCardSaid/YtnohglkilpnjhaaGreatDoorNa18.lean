/- Texts of this claim, one behind the other: each begins with a comment that says what it proves and asks. -/
import Derived.Test.YtnohglkilpnjhaaGreatDoorNa17
import Derived.IntWalk
import Derived.Test.YtnohglkilpnjhaaGreatDoorRows
import Derived.Lib.LaidTab
/- The walk of the reference's Decode of an image. No condition. -/
namespace Go.Proofs.YtnohglkilpnjhaaGreatDoor
open Go.RowKit
set_option linter.unusedVariables false
set_option linter.unusedSimpArgs false
set_option maxRecDepth 100000

theorem rblobs_append : ∀ (a b : List It), rblobs (a ++ b) = (rblobs a).bind fun xs => (rblobs b).map (xs ++ ·)
  | [], b => by simp [rblobs]
  | x :: a, b => by
    have ih := rblobs_append a b
    simp only [List.cons_append, rblobs, ih]
    cases decL x.2 with
    | none => rfl
    | some y =>
      simp only [Option.bind_some]
      cases rblobs a with
      | none => rfl
      | some xs => cases rblobs b <;> rfl
theorem rblobs_snoc {l : List It} {k : Nat} {x : It} {xs : List BlobL} {y : List It} (hx : l[k]? = some x) (h : rblobs (l.take k) = some xs) (hb : decL x.2 = some y) : rblobs (l.take (k + 1)) = some (xs ++ [rblob y]) := by
  rw [List.take_add_one, hx, rblobs_append, h, Option.bind_some]
  simp [rblobs, hb]
theorem rblobs_stop {l : List It} {k : Nat} {x : It} (hx : l[k]? = some x) (hb : decL x.2 = none) : rblobs l = none := by
  have hk : k < l.length := (List.getElem?_eq_some_iff.1 hx).1
  have hd : l = l.take k ++ (x :: l.drop (k + 1)) := by
    rw [List.getElem?_eq_getElem hk] at hx
    cases hx
    rw [← List.drop_eq_getElem_cons hk, List.take_append_drop]
  rw [hd, rblobs_append]
  cases rblobs (l.take k) with
  | none => rfl
  | some xs => simp [rblobs, hb]
theorem rblobs_len : ∀ (l : List It) (xs : List BlobL), rblobs l = some xs → xs.length = l.length
  | [], xs, h => by simp [rblobs] at h; subst h; rfl
  | x :: l, xs, h => by
    simp only [rblobs] at h
    cases hb : decL x.2 with
    | none => rw [hb] at h; cases h
    | some y =>
      rw [hb, Option.bind_some] at h
      cases hr : rblobs l with
      | none => rw [hr] at h; cases h
      | some r => rw [hr] at h; simp at h; subst h; simp [rblobs_len l r hr]

theorem encGE_zero (l : List BlobL) : encGE l = 0 ↔ (encG l).isSome := by
  unfold encGE encG
  split
  · split <;> simp_all
  · simp_all
/-- Ahead of each round. -/
def RDecIM (W2 : World) (g : Nat) (l : List It) (iv : Value) (W : World) : Prop := ∃ (k : Nat) (xs : List BlobL) (v : Value), k ≤ l.length ∧ iv = .int .i64 k ∧ rblobs (l.take k) = some xs ∧ One W g v 52 ∧ RBlob.Own W (g + 1) v xs ∧ Below W2.heap.size W2 W

set_option maxHeartbeats 6400000 in
theorem RDecImg_any (v : Value) (b : List UInt8) (w : World) (hl : Bytes w v b) : Calls Tryz.prog 19 #[v] w (ImgDPost w (rimgD b)) := by
  obtain ⟨va, vc, hv⟩ := hl.len
  subst hv
  have hD := fun W (h : Bytes W (.slice va b.length vc) b) => refDecode_own _ b W h
  have HL := Lib.hid hl
  clear hl
  rcases hd : decL b with _ | l
  · have HDN := Lib.hid (show rimgD b = none by unfold rimgD; rw [hd]; rfl)
    rw [hd] at hD
    have HDD := Lib.hid hD
    clear hd hD
    go_enter Tryz.func19, Tryz.ntmps19
    go_wp2_with (first
      | ((with_reducible refine wpList_plain (o := ⟨some 2, Op.alloc _, _, _, _, _⟩) rfl fun K hK => ?_); (refine RImg.wp_alloc rfl fun w1 ho1 hb1 hs1 => hK _ _ ?_); have HO1 := Lib.hid ho1; have HB1 := Lib.hid hb1; clear ho1 hb1 hs1)
      | (go_at_call 47; refine (HDD.out _ (HL.out.of_new HB1.out)).mono ?_; rintro e w2 ⟨v2, pre, base, rfl, hown, hpre, hb2, hbase⟩; have HRR := Lib.hid (HO1.out.of_new hb2); have HBW := Lib.hid (below_next HB1.out hb2); clear hown hpre hb2 hbase)
      | ((with_reducible refine wpList_plain (o := ⟨some 19, Op.build _ _, _, _, _, _⟩) rfl fun K hK => ?_); (refine wp_val (v := RImg.V (.slice none 0 0)) (by unfold execOp; simp only [List.map_toArray, List.map_nil, build_img0, Sem.run_bind, Result.andThen_ok, Sem.run_pure]; rfl) (hK _ _ ?_)))
          | ((with_reducible refine wpList_plain (o := ⟨none, Op.store _ (.tmp 2) (.tmp 19), _, _, _, _⟩) rfl fun K hK => ?_); (refine HRR.out.store (.tmp 2) (.tmp 19) rfl rfl rfl (show RImg.ok (.slice none 0 0) from rfl) fun wF hOF hgF hsF => hK _ _ ?_); have HOF := Lib.hid hOF; have HGF := Lib.hid hgF; clear hOF hgF hsF))
    refine bodyPost_ret (RecT.results2 rfl _ rfl rfl HOF.out) rfl ?_
    exact imgD_fail HDN.out (HBW.out.grown HGF.out (by have := HBW.out.size; omega) (fun k e => by cases e; omega))
  have HDEC := Lib.hid (show rimgD b = (rblobs l).bind fun xs => if encG xs = some b then some xs else none by unfold rimgD; rw [hd]; rfl)
  have hEB := encL_decL hd
  have hble : b.length ≤ 65536 := encL_le hEB
  have hll : l.length ≤ 65536 := by
    have hfl : b = flatB l := by have := (encF_parts l 0 [] b (by simp) hEB).1; simpa using this
    have := flatB_ge l
    rw [← hfl] at this; omega
  clear hEB
  rw [hd] at hD
  have HDD := Lib.hid hD
  clear hd hD
  go_enter Tryz.func19, Tryz.ntmps19
  go_upto_region 4 with (first
      | ((with_reducible refine wpList_plain (o := ⟨some 2, Op.alloc _, _, _, _, _⟩) rfl fun K hK => ?_); (refine RImg.wp_alloc rfl fun w1 ho1 hb1 hs1 => hK _ _ ?_); have HO1 := Lib.hid ho1; have HB1 := Lib.hid hb1; clear ho1 hb1 hs1)
      | (go_at_call 47; refine (HDD.out _ (HL.out.of_new HB1.out)).mono ?_; rintro e w2 ⟨v2, pre, base, rfl, hown, hpre, hb2, hbase⟩; have HO2 := Lib.hid (HO1.out.of_new hb2); have HB2 := Lib.hid (below_next HB1.out hb2); clear hb2 hbase))
  rw [Option.getD_some] at hpre
  have hlen : pre.length = l.length := by rw [← hpre]; simp
  obtain ⟨va2, vc2, hv⟩ := hown.len
  subst hv
  rw [hlen]
  have HOWN := Lib.hid hown
  have HPRE := Lib.hid hpre
  have HLEN := Lib.hid hlen
  obtain ⟨g, hg⟩ : ∃ g, w2.heap.size = g := ⟨_, rfl⟩
  have HG := Lib.hid hg
  have hwg : w.heap.size < g := by rw [← hg]; exact HO2.out.lt
  clear hown hpre hlen hg
  go_wp2_with (first
      | ((with_reducible refine wpList_plain (o := ⟨some 6, Op.alloc _, _, _, _, _⟩) rfl fun K hK => ?_); (refine RImg.wp_alloc rfl fun w3 ho3 hb3 hs3 => hK _ _ ?_); rw [HG.out] at ho3 hs3 ⊢; have HO3 := Lib.hid ho3; have HB3 := Lib.hid hb3; have HS3 := Lib.hid hs3; clear ho3 hb3 hs3))
  go_loopw [7, 8, 9] (fun iv _ _ W' => RDecIM w2 g l iv W') (fun iv _ _ _ => l.length - (intOf iv).toNat)
  case atStart => exact ⟨0, [], _, Nat.zero_le _, rfl, rfl, RImg_one HO3.out, RecT.Own.nil _ _, HB3.out⟩
  case round =>
    obtain ⟨k, xs, v, hk, rfl, hxs, hone, hown, hbr⟩ := hrel
    have hgl := hone.lt
    by_cases hlt : k < l.length
    · obtain ⟨x, hx⟩ : ∃ x, l[k]? = some x := ⟨_, List.getElem?_eq_getElem hlt⟩
      obtain ⟨pg, pc, hv, hpg, hcell⟩ := HOWN.out.cellsAt (by rw [HLEN.out]; omega)
      rw [HPRE.out, HLEN.out] at hcell
      rw [HLEN.out] at hv
      obtain ⟨rfl, rfl⟩ : va2 = some ⟨pg, 0, none⟩ ∧ vc2 = pc := by simp only [Value.slice.injEq] at hv; exact ⟨hv.1, hv.2.2⟩
      obtain ⟨hn, u, hu, hub, -⟩ := hcell k hlt
      rw [show l.getD k (0, []) = x by simp [List.getD, hx]] at hn hub
      have hur := (hbr.cell (p := ⟨pg, k * 2 + 1, none⟩) hpg).trans hu
      have hubr := hub.of_new hbr
      have hB := fun W h => refDecode_own u x.2 W h
      have hki : (k : Int) < (l.length : Int) := by omega
      have HX := Lib.hid hx
      have HXS := Lib.hid hxs
      have HONE := Lib.hid hone
      have HWN := Lib.hid hown
      have HBR := Lib.hid hbr
      have HUB := Lib.hid hubr
      have HB := Lib.hid hB
      have hstop := fun h => rblobs_stop HX.out h
      clear hv hcell hn hu hub hubr hB hx hxs hone hown hbr
      rcases hbd : decL x.2 with _ | y
      · have HDN := Lib.hid (show rimgD b = none by rw [HDEC.out, hstop hbd]; rfl)
        rw [hbd] at HB
        clear hbd hstop
        go_wp2_with (first
          | (go_at_call 47; refine (HB.out _ HUB.out).mono ?_; rintro e w4 ⟨v4, pre4, base4, rfl, hown4, hpre4, hb4, hbase4⟩; have HRR := Lib.hid ((HO2.out.of_new HBR.out).of_new hb4); have HBW := Lib.hid (below_next HB2.out (below_next HBR.out hb4)); clear hown4 hpre4 hb4 hbase4)
          | ((with_reducible refine wpList_plain (o := ⟨some 37, Op.build _ _, _, _, _, _⟩) rfl fun K hK => ?_); (refine wp_val (v := RImg.V (.slice none 0 0)) (by unfold execOp; simp only [List.map_toArray, List.map_nil, build_img0, Sem.run_bind, Result.andThen_ok, Sem.run_pure]; rfl) (hK _ _ ?_)))
          | ((with_reducible refine wpList_plain (o := ⟨none, Op.store _ (.tmp 2) (.tmp 37), _, _, _, _⟩) rfl fun K hK => ?_); (refine HRR.out.store (.tmp 2) (.tmp 37) rfl rfl rfl (show RImg.ok (.slice none 0 0) from rfl) fun wF hOF hgF hsF => hK _ _ ?_); have HOF := Lib.hid hOF; have HGF := Lib.hid hgF; clear hOF hgF hsF))
        refine bodyPost_ret (RecT.results2 rfl _ rfl rfl HOF.out) rfl ?_
        exact imgD_fail HDN.out (HBW.out.grown HGF.out (by have := HBW.out.size; omega) (fun k e => by cases e; omega))
      · rw [hbd] at HB
        have HBD := Lib.hid hbd
        clear hbd hstop
        go_upto_region 11 with (first
          | (go_at_call 47; refine (HB.out _ HUB.out).mono ?_; rintro e w4 ⟨v4, pre4, base4, rfl, hown4, hpre4, hb4, hbase4⟩; rw [Option.getD_some] at hpre4; have hit := hown4.items; rw [hpre4] at hit; have HIT := Lib.hid hit; have hone4 := HONE.out.of_new hb4; have HONE4 := Lib.hid hone4; have HWN4 := Lib.hid (HWN.out.of_new hb4); have HB24 := Lib.hid (below_next HBR.out hb4); clear hown4 hpre4 hb4 hbase4 hit))
        have HLX := Lib.hid (show xs.length = k by have := rblobs_len _ _ HXS.out; rw [List.length_take] at this; omega)
        have hco : ∀ w', Grew w4 w' → w'.cell? ⟨g, 0, none⟩ = some v := fun w' h => (HONE4.out.of_new h).cell
        have HST := Lib.hid (rblobs_snoc HX.out HXS.out HBD.out)
        have HYB := Lib.hid (show RBlob.ok (rblob y) from rblob_ok y)
        clear hone4
        refine (wpIn_wide (n := 5)).1 ?_
        refine wpIn_region_early (ro := none) (C := Grew w4) 2 11 12 (by kernel_rfl) (by kernel_rfl) (Grew.start _) (fun c a d v w h => by cases d <;> exact h) ?_
        simp only [List.take_succ_cons, List.take_zero, List.drop_succ_cons, List.drop_zero]
        go_simp
        repeat (first
          | (go_big_quiet_want; (refine quiet_build_blob (rhash y 1) (rhash y 4) (rnum y 2) (rnum y 3) rfl rfl rfl rfl rfl (rhash_len y 1) (rhash_len y 4) ?_); go_simp; go_big_quiet_on)
          | (go_big_quiet_want; apply quiet_val; (intro w' hw'; go_simp; first | done | rfl); go_simp; go_big_quiet_on)
          | (go_big_quiet_want; apply quiet_call (f := 55); (intro w' hw'; go_simp; first | done | rfl); (intro w' hw'; exact Grew.call hw' (RHash_any _ y _ w' (HIT.out.of_new hw'))); go_simp; go_big_quiet_on)
          | (go_big_quiet_want; apply quiet_call (f := 56); (intro w' hw'; go_simp; first | done | rfl); (intro w' hw'; exact Grew.call hw' (RNum_any _ y _ w' (HIT.out.of_new hw'))); go_simp; go_big_quiet_on)
          | (go_big_quiet_skip))
        refine wpQuiet_nil ?_
        intro w5 hw5
        refine LateL.cons rfl (RBlob.wp_build1 (x := rblob y) Tryz.underlying50 (.tmp 48) HYB.out rfl rfl ?_)
        intro w6 ho6 hb6 hs6
        have hw6 : Below w4.heap.size w4 w6 := below_next hw5 hb6
        refine ⟨hw6, ?_⟩
        refine LateL.nil ?_
        rw [wF_none]
        have HONE6 := HONE4.out.of_new hw6
        have HWN6 := HWN4.out.of_new hw6
        refine wpListIn_of_wp rfl (fun c hc => by cases hc) (HWN6.app Tryz.underlying50 (.tmp 39) (.tmp 49) rfl rfl rfl ho6.row (by have := HLX.out; simp; omega) (by have := HONE6.lt; omega) ?_)
        intro v7 w7 ho7 hg7 hu7
        obtain ⟨a7, c7, hv7⟩ := ho7.row.len
        subst hv7
        have hone7 := HONE6.grown hg7 (fun e => by have := (HWN6.lt g e.symm).1; omega)
        have hc7 := hone7.cell
        have hf7 := hone7.free
        have hone8 : One (w7.setCell ⟨g, 0, none⟩ (.slice a7 (xs ++ [rblob y]).length c7)) g (.slice a7 (xs ++ [rblob y]).length c7) 52 := hone7.set _
        have hown8 : RBlob.Own (w7.setCell ⟨g, 0, none⟩ (.slice a7 (xs ++ [rblob y]).length c7)) (g + 1) (.slice a7 (xs ++ [rblob y]).length c7) (xs ++ [rblob y]) :=
          ho7.kept fun q hq => Below.heap_setCell _ _ _ _ (by have := (ho7.lt q hq).1; show q ≠ g; omega)
        have hb8 : Below w2.heap.size w2 (w7.setCell ⟨g, 0, none⟩ (.slice a7 (xs ++ [rblob y]).length c7)) := by
          have h6 : Below w2.heap.size w2 w6 := below_next HB24.out hw6
          have h7 := h6.grown hg7 (by have := h6.size; omega) (fun q hq => by have := (HWN6.lt q hq).1; have := HG.out; omega)
          rw [HG.out] at h7 ⊢
          exact below_set h7 _
        rw [List.length_append, List.length_singleton] at hone8 hown8 hb8 ⊢
        have HONE8 := Lib.hid hone8
        have HOWN8 := Lib.hid hown8
        have HB8 := Lib.hid hb8
        clear hone8 hown8 hb8 hone7 hg7 hu7 ho7 HONE6 HWN6 hw6 ho6 hb6 hs6 hw5 hco
        rw [wF_none]
        gi_wp2
        go_wp2
        go_roundw
        case rel => exact ⟨k + 1, _, _, by omega, by go_num, HST.out, HONE8.out, HOWN8.out, HB8.out⟩
        case measure => simp [intOf]; omega
    · obtain rfl : k = l.length := by omega
      rw [List.take_length] at hxs
      have hde := HDEC.out
      rw [hxs, Option.bind_some] at hde
      have hone' : RImg.O wr g v := one_RImg hone (by obtain ⟨a, c, h⟩ := hown.row.len; rw [h]; rfl)
      have HEN := Lib.hid (REncImg_any v xs wr hown.row)
      have HIMG := Lib.hid hone'
      have HWN := Lib.hid hown
      have HRW := Lib.hid (HO2.out.of_new hbr)
      have HBWR := Lib.hid (below_next HB2.out hbr)
      have hki : ¬ (l.length : Int) < (l.length : Int) := by omega
      clear hxs hown hbr hone hone'
      go_upto_region 13 with (first
        | ((with_reducible refine wpList_plain (o := ⟨some 53, Op.load _ _, _, _, _, _⟩) rfl fun K hK => ?_); (refine HIMG.out.at_.wp rfl rfl (hK _ _ ?_)))
        | (go_at_call 54; refine HEN.out.mono ?_; rintro e w8 ⟨v8, rfl, hv8, hb8⟩; obtain ⟨a8, c8, hv⟩ := hv8.len; subst hv; have HV8 := Lib.hid hv8; have HRR := Lib.hid (HRW.out.of_new hb8); have HIM8 := Lib.hid (HIMG.out.of_new hb8); have HWN8 := Lib.hid (HWN.out.of_new hb8); have HBW := Lib.hid (below_next HBWR.out hb8); clear hv8 hb8))
      have s1 := (HV8.out).string (P := Tryz.prog) (t := 33) (d := 9) Tryz.underlying33 Tryz.underlying5 Tryz.underlying9
      have s2 := (Bytes.of_new HL.out HBW.out).string (P := Tryz.prog) (t := 33) (d := 9) Tryz.underlying33 Tryz.underlying5 Tryz.underlying9
      have hsome : encGE xs = 0 ↔ (encG xs).isSome := encGE_zero xs
      obtain ⟨E, hE⟩ : ∃ E, encGE xs = E := ⟨_, rfl⟩
      rw [hE] at hsome ⊢
      obtain ⟨O, hO⟩ : ∃ O, encG xs = O := ⟨_, rfl⟩
      rw [hO] at hsome hde s1 HV8 ⊢
      clear hE hO
      rcases O with _ | c
      · have h0 : E ≠ 0 := fun h => by have := hsome.1 h; simp at this
        have HDN := Lib.hid (show rimgD b = none by rw [hde, if_neg (by simp)])
        have t1 : (E == 0) = false := beq_eq_false_iff_ne.2 h0
        have t2 : (E != 0) = true := bne_iff_ne.2 h0
        clear hde h0 hsome s1 s2
        go_wp2_with (first
          | ((with_reducible refine wpList_plain (o := ⟨some 66, Op.build _ _, _, _, _, _⟩) rfl fun K hK => ?_); (refine wp_val (v := RImg.V (.slice none 0 0)) (by unfold execOp; simp only [List.map_toArray, List.map_nil, build_img0, Sem.run_bind, Result.andThen_ok, Sem.run_pure]; rfl) (hK _ _ ?_)))
          | ((with_reducible refine wpList_plain (o := ⟨none, Op.store _ (.tmp 2) (.tmp 66), _, _, _, _⟩) rfl fun K hK => ?_); (refine HRR.out.store (.tmp 2) (.tmp 66) rfl rfl rfl (show RImg.ok (.slice none 0 0) from rfl) fun wF hOF hgF hsF => hK _ _ ?_); have HOF := Lib.hid hOF; have HGF := Lib.hid hgF; clear hOF hgF hsF))
        refine bodyPost_ret (RecT.results2 rfl _ rfl rfl HOF.out) rfl ?_
        exact imgD_fail HDN.out (HBW.out.grown HGF.out (by have := HBW.out.size; omega) (fun k e => by cases e; omega))
      have h0 : E = 0 := hsome.2 rfl
      subst h0
      rw [Option.getD_some] at s1 HV8 ⊢
      by_cases hcb : c = b
      · subst hcb
        have HDS := Lib.hid (show rimgD c = some xs by rw [hde, if_pos rfl])
        have e3 := str_same c
        have e4 : (c == c) = true := by simp
        have hvok := HIMG.out.2
        have HVOK := Lib.hid hvok
        clear hde hsome hvok
        go_wp2_with (first
          | ((with_reducible refine wpList_plain (o := ⟨some 67, Op.load _ _, _, _, _, _⟩) rfl fun K hK => ?_); (refine HIM8.out.at_.wp rfl rfl (hK _ _ ?_)))
          | ((with_reducible refine wpList_plain (o := ⟨none, Op.store _ (.tmp 2) (.tmp 67), _, _, _, _⟩) rfl fun K hK => ?_); (refine HRR.out.store (.tmp 2) (.tmp 67) rfl rfl rfl HVOK.out fun wF hOF hgF hsF => hK _ _ ?_); have HOF := Lib.hid hOF; have HGF := Lib.hid hgF; clear hOF hgF hsF))
        refine bodyPost_ret (RecT.results2 rfl _ rfl rfl HOF.out) rfl ?_
        refine ⟨v, by rw [HDS.out]; rfl, ?_, HBW.out.grown HGF.out (by have := HBW.out.size; omega) (fun k e => by cases e; omega)⟩
        rw [HDS.out]
        exact HWN8.out.row.of_kept HGF.out (fun q hq => by have := (HWN8.out.lt q hq).1; intro e; cases e; omega)
      · have HDN := Lib.hid (show rimgD b = none by rw [hde, if_neg (by simpa using hcb)])
        have e3 := str_eq c b
        rw [show decide (c = b) = false by simp [hcb]] at e3
        have e4 : (c == b) = false := by simp [hcb]
        have e5 : (c.toArray == b.toArray) = false := by simp [hcb]
        have e6 : decide (c = b) = false := by simp [hcb]
        clear hde hsome hcb
        go_wp2_with (first
          | ((with_reducible refine wpList_plain (o := ⟨some 66, Op.build _ _, _, _, _, _⟩) rfl fun K hK => ?_); (refine wp_val (v := RImg.V (.slice none 0 0)) (by unfold execOp; simp only [List.map_toArray, List.map_nil, build_img0, Sem.run_bind, Result.andThen_ok, Sem.run_pure]; rfl) (hK _ _ ?_)))
          | ((with_reducible refine wpList_plain (o := ⟨none, Op.store _ (.tmp 2) (.tmp 66), _, _, _, _⟩) rfl fun K hK => ?_); (refine HRR.out.store (.tmp 2) (.tmp 66) rfl rfl rfl (show RImg.ok (.slice none 0 0) from rfl) fun wF hOF hgF hsF => hK _ _ ?_); have HOF := Lib.hid hOF; have HGF := Lib.hid hgF; clear hOF hgF hsF))
        refine bodyPost_ret (RecT.results2 rfl _ rfl rfl HOF.out) rfl ?_
        exact imgD_fail HDN.out (HBW.out.grown HGF.out (by have := HBW.out.size; omega) (fun k e => by cases e; omega))

end Go.Proofs.YtnohglkilpnjhaaGreatDoor

/- Regions that draw their order, walked by hand: where two operations that both make memory are ready at once, both orders. No condition. -/
namespace Go.Proofs.YtnohglkilpnjhaaGreatDoor
open Go.RowKit
set_option linter.unusedVariables false
set_option linter.unusedSimpArgs false

section
variable {ro : Option Nat} {m : Nat} {P : Program} {ops : Array Oper} {md : Region.Mode} {C : World → Prop} {D : Nat → Bool} {Q : Exit → Act → World → Prop}

/-- One operation that keeps to the class. -/
def StepS (ro : Option Nat) (m : Nat) (P : Program) (md : Region.Mode) (ops : Array Oper) (C : World → Prop) (D : Nat → Bool) (Q : Exit → Act → World → Prop) (fuel : Nat) (listed : Array Bool) (p : Nat) (o : Oper) (a : Act) (w : World) : Prop :=
  o.wp P a w (fun a' w' => C w' ∧ wpAnyS ro m P md ops C D Q fuel (listed.setIfInBounds p true) a' w') Q
theorem wpOpIn_step (hnd : noDefer ops = true) {fuel p : Nat} {listed : Array Bool} {o : Oper} {a : Act} {w : World} (h0 : ops[p]? = some o) (hg : o.guard = none) (h : StepS ro m P md ops C D Q fuel listed p o a w) :
    wpOpIn (WF ro) m P ops Q p (fun a' w' => (D p = false → C w') ∧ wpAnyS ro m P md ops C D Q fuel (listed.setIfInBounds p true) a' w') a w := by
  unfold wpOpIn
  simp only [h0]
  rw [if_pos (by simp [Region.wanted, hg])]
  exact wpIn_of_wp (noDefer_spec hnd h0) (Oper.wp_mono (fun a' w' h' => ⟨fun _ => h'.1, h'.2⟩) h)
theorem wpAnyS_one (hnd : noDefer ops = true) {fuel : Nat} {listed : Array Bool} {a : Act} {w : World} (p : Nat) {o : Oper} (h0 : ops[p]? = some o) (hg : o.guard = none) (hr : Region.ready md ops listed = [p]) (h : StepS ro m P md ops C D Q fuel listed p o a w) :
    wpAnyS ro m P md ops C D Q (fuel + 1) listed a w := by
  refine ⟨fun h1 => (by rw [hr] at h1; cases h1), fun i hi => ?_⟩
  rw [hr] at hi
  obtain rfl : i = p := by simpa using hi
  exact wpOpIn_step hnd h0 hg h
/-- Two that are ready at once. -/
theorem wpAnyS_two (hnd : noDefer ops = true) {fuel : Nat} {listed : Array Bool} {a : Act} {w : World} (p q : Nat) {o o2 : Oper} (h0 : ops[p]? = some o) (hg : o.guard = none) (h02 : ops[q]? = some o2) (hg2 : o2.guard = none) (hr : Region.ready md ops listed = [p, q])
    (h : StepS ro m P md ops C D Q fuel listed p o a w) (h2 : StepS ro m P md ops C D Q fuel listed q o2 a w) : wpAnyS ro m P md ops C D Q (fuel + 1) listed a w := by
  refine ⟨fun h1 => (by rw [hr] at h1; cases h1), fun i hi => ?_⟩
  rw [hr] at hi
  simp only [List.mem_cons, List.not_mem_nil, or_false] at hi
  rcases hi with rfl | rfl
  · exact wpOpIn_step hnd h0 hg h
  · exact wpOpIn_step hnd h02 hg2 h2
/-- One that reads no memory, ahead of whatever else is ready. -/
theorem wpAnyS_pure (hnd : noDefer ops = true) (hsel : Region.noSelect ops = true) (hQ : ∀ c (a : Act) (d : Option Tmp) (v : Value) w, Q (.panic c) (a.put d v) w → Q (.panic c) a w) {fuel : Nat} {listed : Array Bool} {a : Act} {w : World} (p : Nat) {o : Oper} (h0 : ops[p]? = some o)
    (he : (earlyOp2 o && (Region.ready md ops listed).contains p && Region.free md ops listed p && D p) = true)
    (h : o.quiet P a (fun _ => True) (fun a' => wpAnyS ro m P md ops C D Q fuel (listed.setIfInBounds p true) a' w)) : wpAnyS ro m P md ops C D Q (fuel + 1) listed a w := by
  simp only [Bool.and_eq_true] at he
  obtain ⟨⟨⟨he, hr⟩, hf⟩, hd⟩ := he
  obtain ⟨v, hv, hK⟩ := h
  exact wpAnyS_takeP hnd h0 (Region.noSelect_spec hsel) hQ hd fuel listed a w (Region.free_spec h0 hf) (by simpa using hr) (still_of_quiet2 he hv) hK
/-- The region: the early ones first. -/
def stepB (l : List Oper) (D hs : List Nat) (g : Nat) : Bool :=
  Region.noSelect l.toArray && noDefer l.toArray && decide (hs.length + g = l.length) && (D.all fun j => decide (j < l.length)) && earlyI .any l.toArray (fun j => D.contains j) hs (Array.replicate l.length false)
end

end Go.Proofs.YtnohglkilpnjhaaGreatDoor

/- Regions that draw their order, walked by hand, in the world they begin in: the early ones leave it. No condition. -/
namespace Go.Proofs.YtnohglkilpnjhaaGreatDoor
open Go.RowKit
set_option linter.unusedVariables false
set_option linter.unusedSimpArgs false

section
variable {ro : Option Nat} {m : Nat} {P : Program} {ops : Array Oper} {md : Region.Mode} {C : World → Prop} {D : Nat → Bool} {Q : Exit → Act → World → Prop}

/-- The early operations, one by one; the world is the one they began in. -/
theorem wpAnyS_earlyW (hnd : noDefer ops = true) (hsel : Region.noSelect ops = true) (hQ : ∀ c (a : Act) (d : Option Tmp) (v : Value) w, Q (.panic c) (a.put d v) w → Q (.panic c) a w) (hD : ∀ j, ops.size ≤ j → D j = false) {R : Act → Prop} {g : Nat} (ps : List Nat) (w : World) :
    ∀ (listed : Array Bool) (a : Act), listed.size = ops.size → ClosedL md ops listed → C w → earlyI md ops D ps listed = true →
      wpQuiet P ops C R (opsAt ops.toList ps) a → (∀ a', R a' → wpAnyS ro m P md ops C D Q g (listedI ps listed) a' w) → wpAnyS ro m P md ops C D Q (ps.length + g) listed a w := by
  induction ps with
  | nil =>
    intro listed a _ _ hC _ h hL
    rw [List.length_nil, Nat.zero_add]
    exact hL a h
  | cons p ps ih =>
    intro listed a hsz hcl hC hB h hL
    simp only [earlyI, Bool.and_eq_true] at hB
    obtain ⟨⟨⟨⟨hr, hf⟩, he⟩, hw⟩, hB⟩ := hB
    have hr' : p ∈ Region.ready md ops listed := by simpa using hr
    obtain ⟨o, h0⟩ : ∃ o, ops[p]? = some o := by
      cases q : ops[p]? with
      | some o => exact ⟨o, rfl⟩
      | none => rw [q] at he; cases he
    rw [h0] at he
    rw [opsAt_cons (o := o) (by simpa using h0)] at h
    have hg : o.guard = none := by
      have := he
      unfold earlyOp2 at this
      simp only [Bool.and_eq_true, Option.isNone_iff_eq_none] at this
      exact this.1
    have hq : o.quiet P a C (wpQuiet P ops C R (opsAt ops.toList ps)) := by
      have h' : if Region.wanted o (yielded ops a.tmps) then o.quiet P a C (wpQuiet P ops C R (opsAt ops.toList ps)) else wpQuiet P ops C R (opsAt ops.toList ps) (a.put o.dst undef) := h
      rwa [if_pos (by simp [Region.wanted, hg])] at h'
    obtain ⟨v, hv, hK⟩ := hq
    have hDi : ∀ j, D j = true → WaitsT md ops p j := fun j hj => by
      have hjs : j < ops.size := by
        rcases Nat.lt_or_ge j ops.size with h | h
        · exact h
        · rw [hD j h] at hj; cases hj
      have := List.all_eq_true.1 hw j (List.mem_range.2 hjs)
      simp only [hj, Bool.not_true, Bool.false_or] at this
      exact waitsB_spec _ _ this
    rw [List.length_cons, show ps.length + 1 + g = (ps.length + g) + 1 by omega]
    refine wpAnyS_take hnd h0 (Region.noSelect_spec hsel) hQ hDi (ps.length + g) listed a w hsz hcl (Region.free_spec h0 hf) hr' (still_of_quiet2 he hv) hC ?_
    exact ih _ _ (by simpa using hsz) (hcl.set hr' hsz) hC hB hK hL

theorem wpIn_region_stepsW {id : Nat} {a : Act} {w : World} {l : List Oper} (C : World → Prop) (D hs : List Nat) (g : Nat) (hm : P.follows .mixedOrders = true) (hB : stepB l D hs g = true)
    (hC : C { w with drawn := w.drawn + 1 }) (hQ : ∀ c (a : Act) (d : Option Tmp) (v : Value) w, Q (.panic c) (a.put d v) w → Q (.panic c) a w)
    (h : wpQuiet P l.toArray C (fun a' => wpAnyS ro m P .any l.toArray C (fun j => D.contains j) Q g (listedI hs (Array.replicate l.length false)) a' { w with drawn := w.drawn + 1 }) (opsAt l hs) a) :
    (Code.region id l.toArray true).wpIn (WF ro) m P Q a w := by
  simp only [stepB, Bool.and_eq_true, decide_eq_true_eq] at hB
  obtain ⟨⟨⟨⟨hsel, hnd⟩, hlen⟩, hlt⟩, hearly⟩ := hB
  have hsz : l.toArray.size = l.length := by simp
  refine wpIn_region_any hm ?_
  rw [hsz, ← hlen]
  refine wpAnyS_any (C := C) (D := fun j => D.contains j) _ _ _ _ ?_
  refine wpAnyS_earlyW (R := fun a' => wpAnyS ro m P .any l.toArray C (fun j => D.contains j) Q g (listedI hs (Array.replicate l.length false)) a' { w with drawn := w.drawn + 1 }) hnd hsel hQ (fun j hj => ?_) hs _ (Array.replicate (hs.length + g) false) a (by simp [hlen]) (fun j oj _ hl => (by rw [getD_replicate_false] at hl; cases hl)) hC (by rw [hlen]; exact hearly) h (fun a' hR => ?_)
  · cases hc : D.contains j with
    | false => rfl
    | true =>
      have := List.all_eq_true.1 hlt j (by simpa using hc)
      simp only [decide_eq_true_eq] at this
      omega
  · rw [hlen]; exact hR
end

end Go.Proofs.YtnohglkilpnjhaaGreatDoor

/- The table of the hash's constants, as a row lists it: from the row's condition to what the walks ask; a world for the witness. No condition. -/
namespace Go.Proofs.YtnohglkilpnjhaaGreatDoor
open Go.RowKit
set_option linter.unusedVariables false

def shaZ : List Int := [1116352408, 1899447441, 3049323471, 3921009573, 961987163, 1508970993, 2453635748, 2870763221, 3624381080, 310598401, 607225278, 1426881987, 1925078388, 2162078206, 2614888103, 3248222580, 3835390401, 4022224774, 264347078, 604807628, 770255983, 1249150122, 1555081692, 1996064986, 2554220882, 2821834349, 2952996808, 3210313671, 3336571891, 3584528711, 113926993, 338241895, 666307205, 773529912, 1294757372, 1396182291, 1695183700, 1986661051, 2177026350, 2456956037, 2730485921, 2820302411, 3259730800, 3345764771, 3516065817, 3600352804, 4094571909, 275423344, 430227734, 506948616, 659060556, 883997877, 958139571, 1322822218, 1537002063, 1747873779, 1955562222, 2024104815, 2227730452, 2361852424, 2428436474, 2756734187, 3204031479, 3329325298]
theorem gK : Tryz.prog.globalNamed "starling/digest.constants" = some 0 := by kernel_rfl
theorem gKType : (Tryz.prog.globals[0]?).map (·.type) = some 199 := by kernel_rfl
theorem cellsK : Tryz.prog.cellsOf 199 = 64 := by kernel_rfl
theorem cellsK1 : Tryz.prog.cellsOf 151 = 1 := by kernel_rfl
theorem shaZ_at : ∀ j : Fin 64, shaZ.getD j.val 0 = w32 (shaK.getD j.val 0) := by decide

theorem consts_of {W : World} (h : laidMetH Tryz.prog [("starling/digest.constants", Rows.laid_starling_digest_constants)] W) : Consts W := by
  have ht : Lib.TabIs Tryz.prog W "starling/digest.constants" .u32 shaZ := Lib.tabIs_of_head (rest := []) gK gKType Tryz.underlying199 Tryz.underlying151 cellsK1 cellsK h
  intro j hj
  have := ht.cell gK j hj
  rw [this]
  unfold W32
  rw [← shaZ_at ⟨j, hj⟩]

/-- A world for the witness: the settled one, the table holding what its initialiser lays. -/
noncomputable def laidWorld (os : Os) : World :=
  { World.holding Tryz.prog os ⟨#[], #[], []⟩ with heap := (World.holding Tryz.prog os ⟨#[], #[], []⟩).heap.modify 0 fun
      | .cells _ t frozen => .cells #[.int .u32 1116352408, .int .u32 1899447441, .int .u32 3049323471, .int .u32 3921009573, .int .u32 961987163, .int .u32 1508970993, .int .u32 2453635748, .int .u32 2870763221, .int .u32 3624381080, .int .u32 310598401, .int .u32 607225278, .int .u32 1426881987, .int .u32 1925078388, .int .u32 2162078206, .int .u32 2614888103, .int .u32 3248222580, .int .u32 3835390401, .int .u32 4022224774, .int .u32 264347078, .int .u32 604807628, .int .u32 770255983, .int .u32 1249150122, .int .u32 1555081692, .int .u32 1996064986, .int .u32 2554220882, .int .u32 2821834349, .int .u32 2952996808, .int .u32 3210313671, .int .u32 3336571891, .int .u32 3584528711, .int .u32 113926993, .int .u32 338241895, .int .u32 666307205, .int .u32 773529912, .int .u32 1294757372, .int .u32 1396182291, .int .u32 1695183700, .int .u32 1986661051, .int .u32 2177026350, .int .u32 2456956037, .int .u32 2730485921, .int .u32 2820302411, .int .u32 3259730800, .int .u32 3345764771, .int .u32 3516065817, .int .u32 3600352804, .int .u32 4094571909, .int .u32 275423344, .int .u32 430227734, .int .u32 506948616, .int .u32 659060556, .int .u32 883997877, .int .u32 958139571, .int .u32 1322822218, .int .u32 1537002063, .int .u32 1747873779, .int .u32 1955562222, .int .u32 2024104815, .int .u32 2227730452, .int .u32 2361852424, .int .u32 2428436474, .int .u32 2756734187, .int .u32 3204031479, .int .u32 3329325298] t frozen
      | o => o }

end Go.Proofs.YtnohglkilpnjhaaGreatDoor

/- From the reading of a law's argument to what the walks ask of it: slices of hashes, pairs of hashes, pairs of numbers. No condition. -/
namespace Go.Proofs.YtnohglkilpnjhaaGreatDoor
open Go.ChangeShapes Go.WideShapes Go.ChangeAt Go.RowKit Go.Deep
set_option linter.unusedVariables false
set_option linter.unusedSectionVars false

section
variable {H : Type} {enc : TypeId × Value → H} {P : Program} {W : World} {base : Nat} {spare : Nat → Bool} {held : Bool}

theorem flatD_getElem {l : List (List UInt8)} (h : Dig32 l) {j : Nat} (hj : j < l.length * 32) : (flatD l)[j]? = ((l.getD (j / 32) []).map B8)[j % 32]? := by
  have := flatD_at h (i := j / 32) (j := j % 32) (by omega) (by omega)
  rwa [show j / 32 * 32 + j % 32 = j by omega] at this

end
end Go.Proofs.YtnohglkilpnjhaaGreatDoor

/- From the reading of a law's argument to what the walks ask of it: a message by value. No condition. -/
namespace Go.Proofs.YtnohglkilpnjhaaGreatDoor
open Go.ChangeShapes Go.WideShapes Go.ChangeAt Go.RowKit Go.Deep
set_option linter.unusedVariables false
set_option linter.unusedSectionVars false
set_option maxRecDepth 100000

section
variable {H : Type} {enc : TypeId × Value → H} {P : Program} {W : World} {base : Nat} {spare : Nat → Bool} {held : Bool}

/-- A slice of numbers. -/
theorem ints_of_trod {t e : TypeId} {fuel : Nat} {cs : List Value} {x : DataW H × List MemPlace} (ht : P.underlying t = some (.slice e)) (he : P.underlying e = some (.int .i64)) (hc : P.cellsOf e = 1)
    (h : DataW.trod enc P W base spare held fuel t cs = some x) : ∃ v l, cs = [v] ∧ Ints W v l ∧ ∀ n ∈ l, inI64 n := by
  rcases open_ints ht he hc h with ⟨rfl, _⟩ | ⟨a, len, cap, zs, rfl, _, hl, hm, hz, _, hcell, hwz⟩
  · exact ⟨_, [], rfl, Row.of_nil 1, fun n h => by cases h⟩
  · have hlz : len ≤ zs.length := by rw [hz]; split <;> omega
    refine ⟨_, zs.take len, rfl, ?_, fun n hn => bd_i64 (hwz n (List.mem_of_mem_take hn))⟩
    have hlen : (zs.take len).length = len := by simp; omega
    unfold Ints
    rw [hlen]
    refine ⟨by simp; omega, some a, cap, rfl, hl, hm, (fun h => by cases h), fun hne => ?_⟩
    have h0 := hcell 0 (by omega)
    have e0 : a.add 0 = a := rfl
    rw [e0] at h0
    obtain ⟨b, off, rfl⟩ := addr_none h0
    refine ⟨b, off, rfl, World.block_lt_of_cell? _ _ h0, fun j hj => ?_⟩
    have hj' : j < zs.length := by omega
    have := hcell j hj'
    rw [addr_add] at this
    rw [this]
    simp [List.getElem?_map, show j < len by omega, List.getElem?_eq_getElem hj', List.getD, I64]

/-- A slice of hashes. -/
theorem digests_of_trod {t e f : TypeId} {fuel : Nat} {cs : List Value} {x : DataW H × List MemPlace} (ht : P.underlying t = some (.slice e)) (he : P.underlying e = some (.array 32 f)) (hf : P.underlying f = some (.int .u8)) (hce : P.cellsOf e = 32) (hcf : P.cellsOf f = 1)
    (hfu : DataW.trod enc P W 0 spare held fuel t cs = some x) : ∃ v l, cs = [v] ∧ Digs W v l := by
  rcases open_slice ht hfu with ⟨rfl, _⟩ | ⟨a, len0, cap0, m, n, D, Pl, rfl, _, hl, hm, hmm, _, hx⟩
  · exact ⟨_, [], rfl, (fun _ h => by simp at h), Row.of_nil 32⟩
  · have hlm : len0 ≤ m := by rw [hmm]; split <;> omega
    have one : ∀ i, i < len0 → ∃ y : List UInt8, y.length = 32 ∧ ∀ j, j < 32 → W.cell? ((a.add (i * 32)).add j) = (y.map B8)[j]? := by
      intro i hi
      obtain ⟨cs', hc, ht'⟩ := hx i (by omega)
      rw [hce] at hc
      obtain ⟨_, hcl, hat⟩ := World.cells?_some hc
      obtain ⟨l, rfl, hb⟩ := octs_of_trod he hf hcf hce ht'
      refine ⟨l, hb, fun j hj => ?_⟩
      have := hat j hj
      simpa using this
    obtain ⟨Y, hY⟩ := choose_lt (n := len0) (p := fun i (y : List UInt8) => y.length = 32 ∧ ∀ j, j < 32 → W.cell? ((a.add (i * 32)).add j) = (y.map B8)[j]?) one
    have h32 : Dig32 ((List.range len0).map Y) := fun d hd => by
      obtain ⟨i, hi, rfl⟩ := List.mem_map.1 hd
      exact (hY i (List.mem_range.1 hi)).1
    have hlen : ((List.range len0).map Y).length = len0 := by simp
    refine ⟨_, (List.range len0).map Y, rfl, h32, by rw [flatD_len h32], some a, cap0, by rw [hlen], by rw [hlen]; exact hl, hm, (fun h => by cases h), fun h0 => ?_⟩
    rw [hlen] at h0 ⊢
    have h0' : 0 < len0 := by omega
    have c0 := (hY 0 h0').2 0 (by omega)
    have e0 : (a.add (0 * 32)).add 0 = a := rfl
    rw [e0, List.getElem?_eq_getElem (by simp [(hY 0 h0').1])] at c0
    obtain ⟨b, off, rfl⟩ := addr_none c0
    refine ⟨b, off, rfl, World.block_lt_of_cell? _ _ c0, fun j hj => ?_⟩
    have h2 := (hY (j / 32) (by omega)).2 (j % 32) (by omega)
    rw [addr_add, addr_add, Nat.add_assoc, show j / 32 * 32 + j % 32 = j by omega] at h2
    rw [h2, flatD_getElem h32 (by rw [hlen]; exact hj)]
    simp [List.getD, show j / 32 < len0 by omega]

end

section
variable {H : Type} {enc : TypeId × Value → H} {W : World} {base : Nat} {spare : Nat → Bool} {held : Bool}

theorem fields_member : (Tryz.prog.fieldsOf 113).toList.map (fun f => (f.name, f.type, f.offset)) = [("Id", 3, 0), ("Incarnation", 3, 1), ("State", 3, 2), ("Since", 3, 3)] := by kernel_rfl
theorem fields_msg : (Tryz.prog.fieldsOf 37).toList.map (fun f => (f.name, f.type, f.offset)) =
    [("Kind", 3, 0), ("Hash", 31, 1), ("Piece", 3, 33), ("Ids", 32, 34), ("Bytes", 33, 35), ("Proof", 34, 36), ("Members", 35, 37), ("Seed", 4, 38)] := by kernel_rfl

/-- A struct's fields, each read. -/
theorem struct_fields {T : TypeId} {fs : Array Field} {fuel : Nat} {cs : List Value} {y : DataW H × List MemPlace} (ht : Tryz.prog.underlying T = some (.struct fs)) (h : DataW.trod enc Tryz.prog W 0 spare held fuel T cs = some y) :
    ∃ n, cs.length = Tryz.prog.cellsOf T ∧ ∀ (j : Nat) (q : String × TypeId × Nat), (fs.toList.map (fun f => (f.name, f.type, f.offset)))[j]? = some q → ∃ z, DataW.trod enc Tryz.prog W 0 spare held n q.2.1 ((cs.drop q.2.2).take (Tryz.prog.cellsOf q.2.1)) = some z := by
  obtain ⟨xs, n, _, rfl, hl, hlen, hf⟩ := DataW.trod_struct ht h
  refine ⟨n, hl, fun j q hq => ?_⟩
  rw [List.getElem?_map] at hq
  obtain ⟨f, hfj, rfl⟩ := Option.map_eq_some_iff.1 hq
  have h1 := hf j f (by simpa using hfj)
  have hj : j < xs.length := by
    have := (List.getElem?_eq_some_iff.1 hfj).1
    simp at this; omega
  exact ⟨xs[j], by rw [h1, List.getElem?_eq_getElem hj]⟩

theorem struct_member : ∃ fs, Tryz.prog.underlying 113 = some (.struct fs) ∧ fs.toList.map (fun f => (f.name, f.type, f.offset)) = [("Id", 3, 0), ("Incarnation", 3, 1), ("State", 3, 2), ("Since", 3, 3)] :=
  ⟨Tryz.prog.fieldsOf 113, by kernel_rfl, fields_member⟩
theorem struct_msg : ∃ fs, Tryz.prog.underlying 37 = some (.struct fs) ∧ fs.toList.map (fun f => (f.name, f.type, f.offset)) =
    [("Kind", 3, 0), ("Hash", 31, 1), ("Piece", 3, 33), ("Ids", 32, 34), ("Bytes", 33, 35), ("Proof", 34, 36), ("Members", 35, 37), ("Seed", 4, 38)] :=
  ⟨Tryz.prog.fieldsOf 37, by kernel_rfl, fields_msg⟩

theorem mem_of_trod {fuel : Nat} {cs : List Value} {y : DataW H × List MemPlace} (h : DataW.trod enc Tryz.prog W 0 spare held fuel 113 cs = some y) : ∃ x : MemL, cs = x.cells ∧ x.ok := by
  obtain ⟨fs, ht, hff⟩ := struct_member
  obtain ⟨n, hl, fld⟩ := struct_fields ht h
  have hcl : Tryz.prog.cellsOf 113 = 4 := by kernel_rfl
  have hci : Tryz.prog.cellsOf 3 = 1 := by kernel_rfl
  rw [hff] at fld
  rw [hcl] at hl
  obtain ⟨z0, f0⟩ := fld 0 _ rfl
  obtain ⟨z1, f1⟩ := fld 1 _ rfl
  obtain ⟨z2, f2⟩ := fld 2 _ rfl
  obtain ⟨z3, f3⟩ := fld 3 _ rfl
  dsimp only at f0 f1 f2 f3
  rw [hci] at f0 f1 f2 f3
  obtain ⟨q0, e0, _, w0⟩ := DataW.trod_int Tryz.underlying3 f0
  obtain ⟨q1, e1, _, w1⟩ := DataW.trod_int Tryz.underlying3 f1
  obtain ⟨q2, e2, _, w2⟩ := DataW.trod_int Tryz.underlying3 f2
  obtain ⟨q3, e3, _, w3⟩ := DataW.trod_int Tryz.underlying3 f3
  match cs, hl with
  | [c0, c1, c2, c3], _ =>
    simp at e0 e1 e2 e3
    subst e0 e1 e2 e3
    exact ⟨⟨q0, q1, q2, q3⟩, rfl, bd_i64 w0, bd_i64 w1, bd_i64 w2, bd_i64 w3⟩

/-- A slice of members. -/
theorem mems_of_trod {fuel : Nat} {cs : List Value} {x : DataW H × List MemPlace} (hfu : DataW.trod enc Tryz.prog W 0 spare held fuel 35 cs = some x) : ∃ v l, cs = [v] ∧ Mems W v l ∧ ∀ y ∈ l, y.ok := by
  have hce : Tryz.prog.cellsOf 113 = 4 := by kernel_rfl
  rcases open_slice Tryz.underlying35 hfu with ⟨rfl, _⟩ | ⟨a, len0, cap0, m, n, D, Pl, rfl, _, hl, hm, hmm, _, hx⟩
  · exact ⟨_, [], rfl, Row.of_nil 4, fun _ h => by cases h⟩
  · have hlm : len0 ≤ m := by rw [hmm]; split <;> omega
    have one : ∀ i, i < len0 → ∃ y : MemL, y.ok ∧ ∀ j, j < 4 → W.cell? ((a.add (i * 4)).add j) = y.cells[j]? := by
      intro i hi
      obtain ⟨cs', hc, ht'⟩ := hx i (by omega)
      rw [hce] at hc
      obtain ⟨_, hcl, hat⟩ := World.cells?_some hc
      obtain ⟨y, rfl, hy⟩ := mem_of_trod ht'
      exact ⟨y, hy, fun j hj => hat j hj⟩
    haveI : Inhabited MemL := ⟨mem0⟩
    obtain ⟨Y, hY⟩ := choose_lt (n := len0) (p := fun i (y : MemL) => y.ok ∧ ∀ j, j < 4 → W.cell? ((a.add (i * 4)).add j) = y.cells[j]?) one
    have hlen : ((List.range len0).map Y).length = len0 := by simp
    refine ⟨_, (List.range len0).map Y, rfl, ⟨by rw [flatM_len], some a, cap0, by rw [hlen], by rw [hlen]; exact hl, hm, (fun h => by cases h), fun h0 => ?_⟩, fun y hy => ?_⟩
    · rw [hlen] at h0 ⊢
      have h0' : 0 < len0 := by omega
      have c0 := (hY 0 h0').2 0 (by omega)
      have e0 : (a.add (0 * 4)).add 0 = a := rfl
      rw [e0] at c0
      obtain ⟨b, off, rfl⟩ := addr_none (u := .int .i64 (Y 0).id) (c0.trans rfl)
      refine ⟨b, off, rfl, World.block_lt_of_cell? _ _ (c0.trans rfl : _ = some (.int .i64 (Y 0).id)), fun j hj => ?_⟩
      have h2 := (hY (j / 4) (by omega)).2 (j % 4) (by omega)
      rw [addr_add, addr_add, Nat.add_assoc, show j / 4 * 4 + j % 4 = j by omega] at h2
      rw [h2]
      obtain ⟨g0, g1, g2, g3⟩ := flatM_at (l := (List.range len0).map Y) (i := j / 4) (by rw [hlen]; omega)
      have eg : ((List.range len0).map Y).getD (j / 4) mem0 = Y (j / 4) := by simp [List.getD, show j / 4 < len0 by omega]
      rw [eg] at g0 g1 g2 g3
      have hj4 : j = j / 4 * 4 + j % 4 := by omega
      rcases (show j % 4 = 0 ∨ j % 4 = 1 ∨ j % 4 = 2 ∨ j % 4 = 3 by omega) with e | e | e | e
      · rw [e, show j = j / 4 * 4 by omega, show j / 4 * 4 / 4 = j / 4 by omega, g0]; rfl
      · rw [e, show j = j / 4 * 4 + 1 by omega, show (j / 4 * 4 + 1) / 4 = j / 4 by omega, g1]; rfl
      · rw [e, show j = j / 4 * 4 + 2 by omega, show (j / 4 * 4 + 2) / 4 = j / 4 by omega, g2]; rfl
      · rw [e, show j = j / 4 * 4 + 3 by omega, show (j / 4 * 4 + 3) / 4 = j / 4 by omega, g3]; rfl
    · obtain ⟨i, hi, rfl⟩ := List.mem_map.1 hy
      exact (hY i (List.mem_range.1 hi)).1

theorem msg_of_trod {fuel : Nat} {cs : List Value} {y : DataW H × List MemPlace} (h : DataW.trod enc Tryz.prog W 0 spare held fuel 37 cs = some y) : ∃ (m : MsgL) (s : MsgS), cs = msgCells m s ∧ MsgR W m s ∧ m.ok := by
  obtain ⟨fs, ht, hff⟩ := struct_msg
  obtain ⟨n, hl, fld⟩ := struct_fields ht h
  have hcl : Tryz.prog.cellsOf 37 = 39 := by kernel_rfl
  have hci : Tryz.prog.cellsOf 3 = 1 := by kernel_rfl
  have hcd : Tryz.prog.cellsOf 31 = 32 := by kernel_rfl
  have hcb : Tryz.prog.cellsOf 5 = 1 := by kernel_rfl
  have hs1 : Tryz.prog.cellsOf 32 = 1 := by kernel_rfl
  have hs2 : Tryz.prog.cellsOf 33 = 1 := by kernel_rfl
  have hs3 : Tryz.prog.cellsOf 34 = 1 := by kernel_rfl
  have hs4 : Tryz.prog.cellsOf 35 = 1 := by kernel_rfl
  have hs5 : Tryz.prog.cellsOf 4 = 1 := by kernel_rfl
  rw [hff] at fld
  rw [hcl] at hl
  obtain ⟨z0, f0⟩ := fld 0 _ rfl
  obtain ⟨z1, f1⟩ := fld 1 _ rfl
  obtain ⟨z2, f2⟩ := fld 2 _ rfl
  obtain ⟨z3, f3⟩ := fld 3 _ rfl
  obtain ⟨z4, f4⟩ := fld 4 _ rfl
  obtain ⟨z5, f5⟩ := fld 5 _ rfl
  obtain ⟨z6, f6⟩ := fld 6 _ rfl
  obtain ⟨z7, f7⟩ := fld 7 _ rfl
  dsimp only at f0 f1 f2 f3 f4 f5 f6 f7
  rw [hci] at f0 f2
  rw [hs1] at f3
  rw [hs2] at f4
  rw [hs3] at f5
  rw [hs4] at f6
  rw [hs5] at f7
  obtain ⟨q0, e0, _, w0⟩ := DataW.trod_int Tryz.underlying3 f0
  obtain ⟨l1, e1, n1⟩ := octs_of_trod Tryz.underlying31 Tryz.underlying5 hcb hcd f1
  obtain ⟨q2, e2, _, w2⟩ := DataW.trod_int Tryz.underlying3 f2
  obtain ⟨v3, l3, e3, r3, o3⟩ := ints_of_trod Tryz.underlying32 Tryz.underlying3 hci f3
  obtain ⟨v4, l4, e4, r4⟩ := bytes_of_trod Tryz.underlying33 Tryz.underlying5 hcb f4
  obtain ⟨v5, l5, e5, r5⟩ := digests_of_trod Tryz.underlying34 Tryz.underlying31 Tryz.underlying5 hcd hcb f5
  obtain ⟨v6, l6, e6, r6, o6⟩ := mems_of_trod f6
  obtain ⟨q7, e7, _⟩ := DataW.trod_bool Tryz.underlying4 f7
  rw [hcd] at e1
  refine ⟨⟨q0, l1, q2, l3, l4, l5, l6, q7⟩, ⟨v3, v4, v5, v6⟩, ?_, ⟨n1, r3, r4, r5, r6⟩, ⟨bd_i64 w0, bd_i64 w2, o3, o6⟩⟩
  unfold msgCells
  dsimp only
  have hd : ∀ k, cs.drop k = (cs.drop k).take 1 ++ cs.drop (k + 1) := fun k => by have := List.take_append_drop 1 (cs.drop k); rw [List.drop_drop] at this; exact this.symm
  have h39 : cs.drop 39 = [] := List.drop_of_length_le (by omega)
  have h33 : cs.drop 33 = [.int .i64 q2, v3, v4, v5, v6, .bool q7] := by
    rw [hd 33, e2, hd 34, e3, hd 35, e4, hd 36, e5, hd 37, e6, hd 38, e7, h39]; rfl
  have h1 : cs.drop 1 = l1.map B8 ++ cs.drop 33 := by
    have := List.take_append_drop 32 (cs.drop 1)
    rw [List.drop_drop, e1] at this
    exact this.symm
  have h0 : cs = cs.drop 0 := rfl
  rw [h0, hd 0, e0, h1, h33]; rfl

end
end Go.Proofs.YtnohglkilpnjhaaGreatDoor
