/- The walk of the law ManifestImages: it answers true. Condition: the table of constants as the program lays it. -/
import Derived.Test.YtnomekfemadpeaaDoorGc
import Derived.Test.YtnomekfemadpeaaDoorMfSame
import Derived.Test.YtnomekfemadpeaaDoorMfRefDecI
import Derived.Test.YtnomekfemadpeaaDoorMfName
import Derived.Test.YtnomekfemadpeaaDoorMfRefImg
import Derived.Test.YtnomekfemadpeaaDoorStr
namespace Go.Proofs.YtnomekfemadpeaaDoor
open Go.RowKit
set_option linter.unusedVariables false
set_option linter.unusedSimpArgs false
set_option maxRecDepth 100000

theorem nameL_len (l : List BlobL) : (nameL l).length = 32 := by
  unfold nameL
  split
  · exact sumL_len _
  · rfl

set_option maxHeartbeats 6400000 in
theorem ManifestImages_walk (v : Value) (l : List BlobL) (u : Value) (b : List UInt8) (w : World) (hl : RBlob.Row w v l) (hb : Bytes w u b) (hKc : Consts w) :
    Calls Tryd.prog 8 #[.agg #[v], u] w fun e w' => e = .returned (.bool true) ∧ Below w.heap.size w w' := by
  obtain ⟨a, c, hv⟩ := hl.len
  subst hv
  obtain ⟨ua, uc, hv⟩ := hb.len
  subst hv
  have hle := hl.le
  have hbe := hb.le
  obtain ⟨W, hW⟩ : ∃ W, w.alloc (.cells #[.slice a l.length c] 52) = W := ⟨_, rfl⟩
  have ho : RImg.O W w.heap.size (.slice a l.length c) := by rw [← hW]; exact ⟨heap_alloc_new w _, rfl⟩
  have hb0 : Below w.heap.size w W := by rw [← hW]; exact (Below.refl _ w).alloc (Nat.le_refl _) _
  have HL := Lib.hid (hl.of_new hb0)
  have HU := Lib.hid (hb.of_new hb0)
  have HO := Lib.hid ho
  have HW := Lib.hid hW
  have HB0 := Lib.hid hb0
  have HK := Lib.hid (hKc.of_new hb0)
  clear hl hb ho hW hb0 hKc
  go_enter Tryd.func8, Tryd.ntmps8
  go_upto_region 1 with (fail)
  rw [HW.out]
  go_upto_region 2 with (go_at_call 10; refine (awake_any _ HK.out).mono ?_; rintro e w1 ⟨rfl, hb1⟩; have ho1 := HO.out.of_new hb1; have hc1 := (RImg_one ho1).cell; have HO1 := Lib.hid ho1; have HB1 := Lib.hid (below_next HB0.out hb1); have HL1 := Lib.hid (HL.out.of_new hb1); have HU1 := Lib.hid (HU.out.of_new hb1); have HK1 := Lib.hid (HK.out.of_new hb1); clear hb1 ho1)
  by_cases h1 : 100 < l.length
  · have t1 : (100 : Int) < (l.length : Int) := by omega
    go_wp2
    go_ret
    exact ⟨rfl, HB1.out⟩
  have t1 : ¬ (100 : Int) < (l.length : Int) := by omega
  by_cases h2 : 5000 < b.length
  · have t2 : (5000 : Int) < (b.length : Int) := by omega
    go_wp2
    go_ret
    exact ⟨rfl, HB1.out⟩
  have t2 : ¬ (5000 : Int) < (b.length : Int) := by omega
  clear h1 h2
  have HE1 := Lib.hid (fun W' h => EncImg_any (.slice a l.length c) l W' h)
  have HE2 := Lib.hid (fun W' h => REncImg_any (.slice a l.length c) l W' h)
  have HN1 := Lib.hid (fun W' h k => Name_any (.slice a l.length c) l W' h k)
  have HN2 := Lib.hid (fun W' h k => RName_any (.slice a l.length c) l W' h k)
  have HI1 := Lib.hid (fun W' h => Image_any (.slice a l.length c) l W' h)
  have HI2 := Lib.hid (fun W' h => RImage_any (.slice a l.length c) l W' h)
  have HD1 := Lib.hid (fun W' h => DecImg_any (.slice ua b.length uc) b W' h)
  have HD2 := Lib.hid (fun W' (h : Bytes W' (.slice ua b.length uc) b) => by have := RDecImg_any (.slice ua b.length uc) b W' h; rw [rimgD_eq] at this; exact this)
  go_upto_region 5 with (first
    | ((with_reducible refine wpList_plain (o := ⟨some 35, Op.load _ _, _, _, _, _⟩) rfl fun K hK => ?_); (refine HO1.out.at_.wp rfl rfl (hK _ _ ?_)))
    | (go_at_call 28; refine (HE1.out _ HL1.out).mono ?_; rintro e w2 ⟨v2, rfl, hv2, hb2⟩; obtain ⟨a2, c2, hv⟩ := hv2.len; subst hv; have HV2 := Lib.hid hv2; have HO2 := Lib.hid (HO1.out.of_new hb2); have HB2 := Lib.hid (below_next HB1.out hb2); have HL2 := Lib.hid (HL1.out.of_new hb2); have HU2 := Lib.hid (HU1.out.of_new hb2); have HK2 := Lib.hid (HK1.out.of_new hb2); clear hb2 hv2))
  go_upto_region 6 with (first
    | ((with_reducible refine wpList_plain (o := ⟨some 40, Op.load _ _, _, _, _, _⟩) rfl fun K hK => ?_); (refine HO2.out.at_.wp rfl rfl (hK _ _ ?_)))
    | (go_at_call 29; refine (HE2.out _ HL2.out).mono ?_; rintro e w3 ⟨v3, rfl, hv3, hb3⟩; obtain ⟨a3, c3, hv⟩ := hv3.len; subst hv; have HV3 := Lib.hid hv3; have HV2' := Lib.hid (Bytes.of_new HV2.out hb3); have HO3 := Lib.hid (HO2.out.of_new hb3); have HB3 := Lib.hid (below_next HB2.out hb3); have HL3 := Lib.hid (HL2.out.of_new hb3); have HU3 := Lib.hid (HU2.out.of_new hb3); have HK3 := Lib.hid (HK2.out.of_new hb3); clear hb3 hv3))
  obtain ⟨E, hE⟩ : ∃ E, (encG l).getD [] = E := ⟨_, rfl⟩
  have hv2 := HV2'.out
  have hv3 := HV3.out
  rw [hE] at hv2 hv3 ⊢
  have HS2 := Lib.hid hv2
  have HS3 := Lib.hid hv3
  clear HV2 HV2' HV3 hv2 hv3 hE
  generalize encGE l = G at *
  go_upto_region 7 with (first
    | ((with_reducible refine wpList_plain (o := ⟨some 45, Op.load _ _, _, _, _, _⟩) rfl fun K hK => ?_); (refine HO3.out.at_.wp rfl rfl (hK _ _ ?_)))
    | (go_at_call 30; refine (HN1.out _ HL3.out HK3.out).mono ?_; rintro e w4 ⟨rfl, hb4⟩; have HB34 := Lib.hid hb4; clear hb4)
    | ((with_reducible refine wpList_plain (o := ⟨some 10, Op.alloc _, _, _, _, _⟩) rfl fun K hK => ?_); (refine wp_alloc_dig rfl fun w5 h5 hb5 hs5 => hK _ _ ?_); have H5 := Lib.hid h5; have HB5 := Lib.hid hb5; clear h5 hb5 hs5)
    | ((with_reducible refine wpList_plain (o := ⟨none, Op.store _ (.tmp 10) (.tmp 47), _, _, _, _⟩) rfl fun K hK => ?_); (refine wp_store_digO (.tmp 10) (.tmp 47) w4.heap.size (nameL l) dig0 rfl rfl rfl (nameL_len l) H5.out fun w6 h6 hg6 hs6 => hK _ _ ?_); have hb6 := HB5.out.grown hg6 (by have := HB5.out.size; omega) (fun k e => by cases e; exact Nat.le_refl _); have hb36 := below_next HB34.out hb6; have HX6 := Lib.hid h6; have HO6 := Lib.hid (HO3.out.of_new hb36); have HB6 := Lib.hid (below_next HB3.out hb36); have HL6 := Lib.hid (HL3.out.of_new hb36); have HU6 := Lib.hid (HU3.out.of_new hb36); have HK6 := Lib.hid (HK3.out.of_new hb36); have HS26 := Lib.hid (Bytes.of_new HS2.out hb36); have HS36 := Lib.hid (Bytes.of_new HS3.out hb36); clear h6 hg6 hs6 hb6 hb36))
  go_upto_region 8 with (first
    | ((with_reducible refine wpList_plain (o := ⟨some 50, Op.load _ _, _, _, _, _⟩) rfl fun K hK => ?_); (refine HO6.out.at_.wp rfl rfl (hK _ _ ?_)))
    | (go_at_call 31; refine (HN2.out _ HL6.out HK6.out).mono ?_; rintro e w7 ⟨rfl, hb7⟩; have HB67 := Lib.hid hb7; clear hb7)
    | ((with_reducible refine wpList_plain (o := ⟨some 12, Op.alloc _, _, _, _, _⟩) rfl fun K hK => ?_); (refine wp_alloc_dig rfl fun w8 h8 hb8 hs8 => hK _ _ ?_); have H8 := Lib.hid h8; have HB8 := Lib.hid hb8; clear h8 hb8 hs8)
    | ((with_reducible refine wpList_plain (o := ⟨none, Op.store _ (.tmp 12) (.tmp 52), _, _, _, _⟩) rfl fun K hK => ?_); (refine wp_store_digO (.tmp 12) (.tmp 52) w7.heap.size (nameL l) dig0 rfl rfl rfl (nameL_len l) H8.out fun w9 h9 hg9 hs9 => hK _ _ ?_); have hb9 := HB8.out.grown hg9 (by have := HB8.out.size; omega) (fun k e => by cases e; exact Nat.le_refl _); have hb69 := below_next HB67.out hb9; have HY9 := Lib.hid h9; have HX9 := Lib.hid (HX6.out.of_new hb69); have HO9 := Lib.hid (HO6.out.of_new hb69); have HB9 := Lib.hid (below_next HB6.out hb69); have HL9 := Lib.hid (HL6.out.of_new hb69); have HU9 := Lib.hid (HU6.out.of_new hb69); have HS29 := Lib.hid (Bytes.of_new HS26.out hb69); have HS39 := Lib.hid (Bytes.of_new HS36.out hb69); clear h9 hg9 hs9 hb9 hb69))
  obtain ⟨R, hR⟩ : ∃ R, imgD b = R := ⟨_, rfl⟩
  rw [hR] at HD1 HD2
  clear hR
  go_upto_region 9 with (first
    | (go_at_call 32; refine (HD1.out _ HU9.out).mono ?_; rintro e wa ⟨va, rfl, hra, hba⟩; have HRA := Lib.hid hra; have HBA := Lib.hid hba; clear hra hba)
    | ((with_reducible refine wpList_plain (o := ⟨some 14, Op.alloc _, _, _, _, _⟩) rfl fun K hK => ?_); (refine RImg.wp_alloc rfl fun wb hb hbb hsb => hK _ _ ?_); have HB_ := Lib.hid hb; have HBB := Lib.hid hbb; clear hb hbb hsb)
    | ((with_reducible refine wpList_plain (o := ⟨none, Op.store _ (.tmp 14) (.tmp 57), _, _, _, _⟩) rfl fun K hK => ?_); (refine HB_.out.store (.tmp 14) (.tmp 57) rfl rfl rfl (show RImg.ok va from by obtain ⟨a, c, h⟩ := HRA.out.len; rw [h]; rfl) fun wc hc hgc hsc => hK _ _ ?_); have hbc := HBB.out.grown hgc (by have := HBB.out.size; omega) (fun k e => by cases e; exact Nat.le_refl _); have hb9c := below_next HBA.out hbc; have HZC := Lib.hid hc; have HRC := Lib.hid (HRA.out.of_new hbc); have HYC := Lib.hid (HY9.out.of_new hb9c); have HXC := Lib.hid (HX9.out.of_new hb9c); have HOC := Lib.hid (HO9.out.of_new hb9c); have HBC := Lib.hid (below_next HB9.out hb9c); have HLC := Lib.hid (HL9.out.of_new hb9c); have HUC := Lib.hid (HU9.out.of_new hb9c); have HS2C := Lib.hid (Bytes.of_new HS29.out hb9c); have HS3C := Lib.hid (Bytes.of_new HS39.out hb9c); clear hc hgc hsc hbc hb9c))
  go_upto_region 10 with (first
    | (go_at_call 33; refine (HD2.out _ HUC.out).mono ?_; rintro e wd ⟨vd, rfl, hrd, hbd⟩; have HRD := Lib.hid hrd; have HBD := Lib.hid hbd; clear hrd hbd)
    | ((with_reducible refine wpList_plain (o := ⟨some 16, Op.alloc _, _, _, _, _⟩) rfl fun K hK => ?_); (refine RImg.wp_alloc rfl fun we hb hbb hsb => hK _ _ ?_); have HE_ := Lib.hid hb; have HBE := Lib.hid hbb; clear hb hbb hsb)
    | ((with_reducible refine wpList_plain (o := ⟨none, Op.store _ (.tmp 16) (.tmp 62), _, _, _, _⟩) rfl fun K hK => ?_); (refine HE_.out.store (.tmp 16) (.tmp 62) rfl rfl rfl (show RImg.ok vd from by obtain ⟨a, c, h⟩ := HRD.out.len; rw [h]; rfl) fun wf hc hgc hsc => hK _ _ ?_); have hbc := HBE.out.grown hgc (by have := HBE.out.size; omega) (fun k e => by cases e; exact Nat.le_refl _); have hb9c := below_next HBD.out hbc; have HQF := Lib.hid hc; have HTF := Lib.hid (HRD.out.of_new hbc); have HZF := Lib.hid (HZC.out.of_new hb9c); have HRF := Lib.hid (HRC.out.of_new hb9c); have HYF := Lib.hid (HYC.out.of_new hb9c); have HXF := Lib.hid (HXC.out.of_new hb9c); have HOF := Lib.hid (HOC.out.of_new hb9c); have HBF := Lib.hid (below_next HBC.out hb9c); have HLF := Lib.hid (HLC.out.of_new hb9c); have HS2F := Lib.hid (Bytes.of_new HS2C.out hb9c); have HS3F := Lib.hid (Bytes.of_new HS3C.out hb9c); clear hc hgc hsc hbc hb9c))
  have HSM := Lib.hid (fun W' (h : RBlob.Row W' va (R.getD [])) (k : RBlob.Row W' vd (R.getD [])) => by have := SameImg_any va vd _ _ W' h k; rw [decide_eq_true (rfl : R.getD [] = R.getD [])] at this; exact this)
  go_upto_region 11 with (first
    | ((with_reducible refine wpList_plain (o := ⟨some 64, Op.load _ _, _, _, _, _⟩) rfl fun K hK => ?_); (refine HZF.out.at_.wp rfl rfl (hK _ _ ?_)))
    | ((with_reducible refine wpList_plain (o := ⟨some 65, Op.load _ _, _, _, _, _⟩) rfl fun K hK => ?_); (refine HQF.out.at_.wp rfl rfl (hK _ _ ?_)))
    | (go_at_call 34; refine (HSM.out _ HRF.out HTF.out).mono ?_; rintro e wg ⟨rfl, hbg⟩; have HXG := Lib.hid (HXF.out.of_new hbg); have HYG := Lib.hid (HYF.out.of_new hbg); have HOG := Lib.hid (HOF.out.of_new hbg); have HBG := Lib.hid (below_next HBF.out hbg); have HLG := Lib.hid (HLF.out.of_new hbg); have HS2G := Lib.hid (Bytes.of_new HS2F.out hbg); have HS3G := Lib.hid (Bytes.of_new HS3F.out hbg); clear hbg))
  have s1 : ∀ w', Grew wg w' → _ := fun w' hw' => (Bytes.of_new HS2G.out hw').string (P := Tryd.prog) (t := 22) (d := 9) Tryd.underlying22 Tryd.underlying5 Tryd.underlying9
  have s2 : ∀ w', Grew wg w' → _ := fun w' hw' => (Bytes.of_new HS3G.out hw').string (P := Tryd.prog) (t := 22) (d := 9) Tryd.underlying22 Tryd.underlying5 Tryd.underlying9
  have e0 := str_same E
  have e1 : (G == G) = true := by simp
  have e2 : (encGE l == encGE l) = true := by simp
  have e3 : ∀ x : Int, (x == x) = true := by simp
  have hXA := HXG.out.at_
  have hYA := HYG.out.at_
  have hq : ∀ w' : World, (binOp .eql 25 (.agg ((nameL l).map B8).toArray) (.agg ((nameL l).map B8).toArray)).run Tryd.prog w' = .ok (.bool true) w' := fun w' => by
    have := run_eql_dig (nameL l) (nameL l) (nameL_len l) (nameL_len l) w'
    rw [decide_eq_true rfl] at this
    exact this
  have hgd := guard_dig
  refine wp_region_grew (by kernel_rfl) (by kernel_rfl) ?_
  repeat (first
    | (go_big_quiet_want; (refine RecT.At.quiet (R := RImg) (p := .tmp 2) (fun w' hw' => (HOG.out.of_new hw').at_) rfl rfl ?_); go_simp; go_big_quiet_on)
    | (go_big_quiet_want; (with_reducible apply quiet_load_at (ty := 25) (x := .tmp _)); rfl; rfl; assumption; go_simp; go_big_quiet_on)
    | (go_big_quiet_want; apply quiet_val; (intro w' hw'; go_simp; first | done | rfl); go_simp; go_big_quiet_on)
    | (go_big_quiet_want; apply quiet_call (f := 35); (intro w' hw'; go_simp; first | done | rfl); (intro w' hw'; exact Grew.call hw' (HI1.out w' (HLG.out.of_new hw'))); go_simp; go_big_quiet_on)
    | (go_big_quiet_want; apply quiet_call (f := 36); (intro w' hw'; go_simp; first | done | rfl); (intro w' hw'; exact Grew.call hw' (HI2.out w' (HLG.out.of_new hw'))); go_simp; go_big_quiet_on)
    | (go_big_quiet_skip))
  refine wpQuiet_nil ?_
  intro w9 hw9
  go_wp2
  all_goals
    go_ret
    exact ⟨rfl, below_next HBG.out hw9⟩

end Go.Proofs.YtnomekfemadpeaaDoor
