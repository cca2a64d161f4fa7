/- Texts of this claim, one behind the other: each begins with a comment that says what it proves and asks. -/
import Derived.Test.YtnohglkilpnjhaaGreatDoorRi18
import Derived.IntWalk
/- The walk of the reference's Decode: the message that bytes are. No condition. -/
namespace Go.Proofs.YtnohglkilpnjhaaGreatDoor
open Go.RowKit Go.Shelf
set_option linter.unusedVariables false
set_option linter.unusedSimpArgs false
set_option maxRecDepth 100000

/-- The numbers of items rise. -/
theorem rising_of : ∀ (l : List It) (last : Int), checkF l last = some l → l.Pairwise (fun x y => x.1 < y.1)
  | [], _, _ => List.Pairwise.nil
  | y :: l, last, h => by
    have h0 := h
    simp only [checkF] at h
    split at h
    · cases h
    · cases hc : checkF l y.1 with
      | none => rw [hc] at h; cases h
      | some q =>
        have hq := checkF_some l y.1 q hc
        subst hq
        exact List.Pairwise.cons (fun x hx => (checkF_all _ _ hc x hx).1) (rising_of _ _ hc)
theorem decL_rising {b : List UInt8} {l : List It} (h : decL b = some l) : l.Pairwise (fun x y => x.1 < y.1) := by
  unfold decL at h
  split at h
  · cases h
  · have e := checkF_some _ _ _ h
    rw [← e] at h
    exact rising_of _ _ h

/-- What holds ahead of each round: j items are in. -/
def RDecMI (w0 : World) (g L : Nat) (l : List It) (res : MsgL × Bool) (fv iv : Value) (W : World) : Prop :=
  ∃ (j : Nat) (m : MsgL) (s : MsgS) (f : Bool), j ≤ l.length ∧ iv = .int .i64 j ∧ fv = .bool f ∧ MsgF W g m s ∧ Hi L s ∧ rputsL (l.drop j) m f = res ∧ Kept (fun q => q ≠ g) w0 W ∧
    ((∃ z ∈ l.drop j, z.1 = 6) → m.proof = [] ∧ s.vp = .slice none 0 0) ∧ ((∃ z ∈ l.drop j, z.1 = 7) → m.members = [] ∧ s.vm = .slice none 0 0)
/-- .. of the loop over hashes. -/
def RPrI (w1 : World) (g : Nat) (m : MsgL) (s : MsgS) (b : List UInt8) (kv : Value) (W : World) : Prop :=
  ∃ (k : Nat) (out : List (List UInt8)) (pv : Value), kv = .int .i64 k ∧ k % 32 = 0 ∧ k ≤ b.length ∧ out.length ≤ k ∧ digsB b = out ++ digsB (b.drop k) ∧ MsgF W g { m with proof := out } { s with vp := pv } ∧ OwnD W w1.heap.size pv out ∧ Kept (fun q => q ≠ g) w1 W
/-- .. of the loop over members. -/
def RMeI (w1 : World) (g : Nat) (m : MsgL) (s : MsgS) (ns : List Int) (kv : Value) (W : World) : Prop :=
  ∃ (k : Nat) (out : List MemL) (pv : Value), kv = .int .i64 k ∧ k % 3 = 0 ∧ k ≤ ns.length ∧ out.length ≤ k ∧ memsB ns = out ++ memsB (ns.drop k) ∧ MsgF W g { m with members := out } { s with vm := pv } ∧ OwnM W w1.heap.size pv out ∧ Kept (fun q => q ≠ g) w1 W

set_option maxHeartbeats 12800000 in
theorem RDecode17_any (v : Value) (b : List UInt8) (w : World) (hl : Bytes w v b) :
    Calls Tryz.prog 15 #[v] w (DecMPost w (decP b)) := by
  obtain ⟨i0, hi, hz0, hz1, hz2⟩ := info_parts infoU8
  rw [← rdecP_eq]
  obtain ⟨va, vc, hv⟩ := hl.len
  subst hv
  have hD := fun W (h : Bytes W (.slice va b.length vc) b) => refDecode_own _ b W h
  have HL := Lib.hid hl
  clear hl
  rcases hd : decL b with _ | l
  · have HDN := Lib.hid (show rdecP b = none by unfold rdecP; rw [hd]; rfl)
    rw [hd] at hD
    have HDD := Lib.hid hD
    clear hd hD
    go_enter Tryz.func15, Tryz.ntmps15
    go_wp2_with (first
      | ((with_reducible refine wpList_plain (o := ⟨some 2, Op.alloc _, _, _, _, _⟩) rfl fun K hK => ?_); (refine wp_alloc_msg rfl fun w1 hF1 hb1 hs1 => hK _ _ ?_); have HF1 := Lib.hid hF1; have HB1 := Lib.hid hb1; have HS1 := Lib.hid hs1; clear hF1 hb1 hs1)
      | (go_at_call 47; refine (HDD.out _ (HL.out.of_new HB1.out)).mono ?_; rintro e w2 ⟨v2, pre, base, rfl, hown, hpre, hb2, hbase⟩; have HF2 := Lib.hid (HF1.out.of_new hb2); have HB2 := Lib.hid (below_next HB1.out hb2); clear hown hpre hb2 hbase)
      | ((with_reducible refine wpList_plain (o := ⟨some 23, Op.build _ _, _, _, _, _⟩) rfl fun K hK => ?_); (refine wp_val (v := MsgV msgZ sN) (by unfold execOp; simp only [List.map_toArray, List.map_nil, build_msg, Sem.run_bind, Result.andThen_ok, Sem.run_pure]) (hK _ _ ?_)))
      | ((with_reducible refine wpList_plain (o := ⟨none, Op.store _ (.tmp 2) (.tmp 23), _, _, _, _⟩) rfl fun K hK => ?_); (refine wp_store_msg (.tmp 2) (.tmp 23) w.heap.size msgZ msgZ sN sN rfl rfl rfl (msgR_zero _) HF2.out.o fun wF hOF hgF hsF => hK _ _ ?_); have HOF := Lib.hid hOF; have HGF := Lib.hid hgF; have HSF := Lib.hid hsF; clear hOF hgF hsF))
    refine bodyPost_ret (results_msg rfl _ rfl rfl HOF.out) rfl ?_
    exact fail_msg HDN.out (HB2.out.grown HGF.out (by have := HB2.out.size; omega) (fun k e => by cases e; omega))
  have hEB := encL_decL hd
  have hble : b.length ≤ 65536 := encL_le hEB
  have hfl : b = flatB l := by have := (encF_parts l 0 [] b (by simp) hEB).1; simpa using this
  have hmem : ∀ x ∈ l, x.2.length ≤ 65536 := fun x hx => by have := flatB_mem_len l x hx; rw [← hfl] at this; omega
  have hll : l.length ≤ 65536 := by
    have := itemsL_len b
    unfold decL at hd
    split at hd
    · cases hd
    · have e := checkF_some _ _ _ hd; rw [← e] at this; omega
  have hris := decL_rising hd
  obtain ⟨res, hres⟩ : ∃ res, rputsL l msgZ true = res := ⟨_, rfl⟩
  have HDEC := Lib.hid (show rdecP b = if res.2 = true ∧ encM res.1 = some b then some res.1 else none by unfold rdecP; rw [hd, Option.bind_some, hres])
  rw [hd] at hD
  have HDD := Lib.hid hD
  have HMEM := Lib.hid hmem
  have HRIS := Lib.hid hris
  have HRES := Lib.hid hres
  clear hd hD hEB hfl hmem hris hres
  go_enter Tryz.func15, Tryz.ntmps15
  go_upto_region 4 with (first
      | ((with_reducible refine wpList_plain (o := ⟨some 2, Op.alloc _, _, _, _, _⟩) rfl fun K hK => ?_); (refine wp_alloc_msg rfl fun w1 hF1 hb1 hs1 => hK _ _ ?_); have HF1 := Lib.hid hF1; have HB1 := Lib.hid hb1; have HS1 := Lib.hid hs1; clear hF1 hb1 hs1)
      | (go_at_call 47; refine (HDD.out _ (HL.out.of_new HB1.out)).mono ?_; rintro e w2 ⟨v2, pre, base, rfl, hown, hpre, hb2, hbase⟩; have HF2 := Lib.hid (HF1.out.of_new hb2); have HB2 := Lib.hid (below_next HB1.out hb2); have HBS := Lib.hid hbase; clear hb2 hbase))
  rw [Option.getD_some] at hpre
  have hlen : pre.length = l.length := by rw [← hpre]; simp
  obtain ⟨va2, vc2, hv⟩ := hown.len
  subst hv
  have HOWN := Lib.hid hown
  have HPRE := Lib.hid hpre
  rw [hlen]
  obtain ⟨G, hG⟩ : ∃ G, w2.heap.size = G := ⟨_, rfl⟩
  have HG := Lib.hid hG
  have hR2 := HF2.out.o.lt
  rw [hG] at hR2
  have hRG : w.heap.size < G := hR2
  have HLEN := Lib.hid hlen
  clear hown hpre hlen hG
  go_wp2_with (first
    | ((with_reducible refine wpList_plain (o := ⟨some 6, Op.alloc _, _, _, _, _⟩) rfl fun K hK => ?_); (refine wp_alloc_msg rfl fun w3 hF3 hb3 hs3 => hK _ _ ?_); rw [HG.out] at hF3 hs3 ⊢; have HM3 := Lib.hid hF3; have HB3 := Lib.hid hb3; have HF3 := Lib.hid (HF2.out.of_new hb3); clear hF3 hb3))
  have HK23 := Lib.hid ((Kept.refl (fun q => q ≠ G) w2).below HB3.out)
  have HBB3 := Lib.hid (below_next HB2.out HB3.out)
  go_loopw [7, 8, 9, 10, 11, 12, 13] (fun fv iv _ _ _ _ _ W' => RDecMI w3 G (w.heap.size + 1) l res fv iv W') (fun _ iv _ _ _ _ _ _ => l.length - (intOf iv).toNat)
  case atStart => exact ⟨0, msgZ, sN, true, Nat.zero_le _, rfl, rfl, HM3.out, hi_nil _, HRES.out, Kept.refl _ _, fun _ => ⟨rfl, rfl⟩, fun _ => ⟨rfl, rfl⟩⟩
  case round =>
    obtain ⟨j, m, s, f, hj, rfl, rfl, hF, hhi, hr, hK, h6, h7⟩ := hrel
    have HFR := Lib.hid (HF3.out.o.of_block (hK.block _ HF3.out.o.lt (by omega)))
    have HBR := Lib.hid (hK.to_below HBB3.out (by have := HBB3.out.size; omega) (fun q hq => by omega))
    by_cases hlt : j < l.length
    · have hpl : 0 < pre.length := by rw [HLEN.out]; omega
      obtain ⟨pg, pc, hv, hpg, hcell⟩ := HOWN.out.at_ hpl
      rw [HPRE.out, HLEN.out] at hcell
      rw [HLEN.out] at hv
      obtain ⟨rfl, rfl⟩ : va2 = some ⟨pg, 0, none⟩ ∧ vc2 = pc := by simp only [Value.slice.injEq] at hv; exact ⟨hv.1, hv.2.2⟩
      obtain ⟨hnj, uj, huj, hubj, huoj⟩ := hcell j hlt
      have hK2 := HK23.out.trans hK
      have hpG : pg < G := by rw [← HG.out]; exact hpg
      have hnj' := (hK2.cell (p := ⟨pg, j * 2, none⟩) hpg (by show pg ≠ G; omega)).trans hnj
      have huj' := (hK2.cell (p := ⟨pg, j * 2 + 1, none⟩) hpg (by show pg ≠ G; omega)).trans huj
      have hubj' := hubj.keptBut hK2 (fun q hq => by have := (huoj q hq).2; rw [HG.out] at this; omega)
      have hoff : Off wr G uj := fun q hq => ⟨by have := (huoj q hq).2; rw [HG.out] at this; omega, by have := (huoj q hq).2; have := hK2.size; omega⟩
      have hhiu : ∀ q, uj.ownBlock = some q → w.heap.size + 1 ≤ q := fun q hq => by have := (huoj q hq).1; have := HBS.out; have := HS1.out; omega
      have hdr : l.drop j = l.getD j (0, []) :: l.drop (j + 1) := drop_at_it hlt
      have hxm : l.getD j (0, []) ∈ l := by rw [List.getD_eq_getElem?_getD, List.getElem?_eq_getElem hlt]; exact List.getElem_mem _
      have hxl := HMEM.out _ hxm
      rw [hdr] at hr h6 h7
      have hne : ∀ z ∈ l.drop (j + 1), z.1 ≠ (l.getD j (0, [])).1 := by
        have hp := HRIS.out.sublist (List.drop_sublist j l)
        rw [hdr] at hp
        intro z hz e
        have := List.rel_of_pairwise_cons hp hz
        omega
      obtain ⟨xj, hxj⟩ : ∃ xj, l.getD j (0, []) = xj := ⟨_, rfl⟩
      rw [hxj] at hr h6 h7 hnj' hubj' hxl hne
      obtain ⟨ci, bs⟩ := xj
      dsimp only at hr h6 h7 hnj' hubj' hxl hne
      obtain ⟨ua, uc, hv2⟩ := hubj'.len
      subst hv2
      have hjx : (j : Int) < (l.length : Int) := by omega
      have hj5 : (j : Int) ≤ 65536 := by omega
      have HS := Lib.hid (fun m1 (h : rputL m ci bs = some m1) => (rputs_some (x := (ci, bs)) (xs := l.drop (j + 1)) (f := f) h).symm.trans hr)
      have HN := Lib.hid (fun (h : rputL m ci bs = none) => (rputs_none (x := (ci, bs)) (xs := l.drop (j + 1)) (f := f) h).symm.trans hr)
      have H6 := Lib.hid h6
      have H7 := Lib.hid h7
      have HNE := Lib.hid hne
      have HU := Lib.hid hubj'
      have HOFF := Lib.hid hoff
      have HHU := Lib.hid hhiu
      have HF := Lib.hid hF
      have HHI := Lib.hid hhi
      have HK := Lib.hid hK
      have HXL := Lib.hid hxl
      clear hr h6 h7 hne hubj' hoff hhiu hF hhi hK hK2 hxl hdr hxm hxj hnj huj hubj huoj hcell hv hpl hpg
      have n6 : (∃ z ∈ l.drop (j + 1), z.1 = 6) → ∃ z ∈ (ci, bs) :: l.drop (j + 1), z.1 = 6 := fun ⟨z, h1, h2⟩ => ⟨z, by simp [h1], h2⟩
      have n7 : (∃ z ∈ l.drop (j + 1), z.1 = 7) → ∃ z ∈ (ci, bs) :: l.drop (j + 1), z.1 = 7 := fun ⟨z, h1, h2⟩ => ⟨z, by simp [h1], h2⟩
      have H6N := Lib.hid (fun h => H6.out (n6 h))
      have H7N := Lib.hid (fun h => H7.out (n7 h))
      clear n6 n7
      by_cases c1 : ci = 1
      · as_aux_lemma =>
          subst c1
          obtain ⟨R, hR⟩ : ∃ R, rnumsL bs 1 = R := ⟨_, rfl⟩
          have hnm := rnumbers_any _ bs 1 wr HU.out (by have := HXL.out; omega) (by omega)
          rw [hR] at hnm
          have HR := Lib.hid hR
          have HNM := Lib.hid hnm
          clear hR hnm
          rcases R with _ | ns
          · have HPN := Lib.hid (show rputL m 1 bs = none by simp [rputL, roneL, HR.out])
            go_wp2_with (go_at_call 48; refine HNM.out.mono ?_; rintro e w8 ⟨v8, rfl, ho8, hb8⟩; obtain ⟨a8, c8, hv⟩ := ho8.ints.len; subst hv; have HO8 := Lib.hid ho8; have hnj8 := Grew.cell hb8 hnj'; have HB8 := Lib.hid hb8; have HF8 := Lib.hid (HF.out.of_new hb8); clear ho8 hb8)
            go_roundw
            case rel => exact ⟨j + 1, m, s, false, by omega, by go_num, rfl, HF8.out, HHI.out, HN.out HPN.out, HK.out.below HB8.out, H6N.out, H7N.out⟩
            case measure => simp [intOf]; omega
          · by_cases h1 : ns.length = 1
            · obtain ⟨n, rfl⟩ := List.length_eq_one_iff.1 h1
              have HPS := Lib.hid (show rputL m 1 bs = some { m with kind := n } by simp [rputL, roneL, HR.out])
              clear h1
              go_wp2_with (go_at_call 48; refine HNM.out.mono ?_; rintro e w8 ⟨v8, rfl, ho8, hb8⟩; rw [Option.getD_some] at ho8; obtain ⟨g8, off8, c8, hv, hg8, hcl⟩ := ho8.ints.cell (by simp); have hn8 := hcl 0 (by simp); simp only [List.getD_cons_zero, Nat.add_zero] at hn8; subst hv; clear hcl; have hF8 := HF.out.of_new hb8; have hf8 := hF8.free 0; have hc8 := hF8.o.kind; clear hF8; have HO8 := Lib.hid ho8; have hnj8 := Grew.cell hb8 hnj'; have HB8 := Lib.hid hb8; have HF8 := Lib.hid (HF.out.of_new hb8); clear ho8 hb8)
              go_roundw
              case rel => exact ⟨j + 1, { m with kind := n }, s, f, by omega, by go_num, rfl, HF8.out.setKind _, HHI.out, HS.out _ HPS.out, (HK.out.below HB8.out).setCell (p := ⟨G, 0, none⟩) (fun h => h rfl) _, H6N.out, H7N.out⟩
              case measure => simp [intOf]; omega
            · have HPN := Lib.hid (show rputL m 1 bs = none by simp [rputL, roneL, HR.out, h1])
              have t1 : ((ns.length : Int) == 1) = false := beq_eq_false_iff_ne.2 (by omega)
              have h1i : ¬ (ns.length : Int) = 1 := by omega
              go_wp2_with (go_at_call 48; refine HNM.out.mono ?_; rintro e w8 ⟨v8, rfl, ho8, hb8⟩; rw [Option.getD_some] at ho8; obtain ⟨a8, c8, hv⟩ := ho8.ints.len; subst hv; have HO8 := Lib.hid ho8; have hnj8 := Grew.cell hb8 hnj'; have HB8 := Lib.hid hb8; have HF8 := Lib.hid (HF.out.of_new hb8); clear ho8 hb8)
              go_roundw
              case rel => exact ⟨j + 1, m, s, false, by omega, by go_num, rfl, HF8.out, HHI.out, HN.out HPN.out, HK.out.below HB8.out, H6N.out, H7N.out⟩
              case measure => simp [intOf]; omega
      by_cases c3 : ci = 3
      · as_aux_lemma =>
          subst c3
          obtain ⟨R, hR⟩ : ∃ R, rnumsL bs 1 = R := ⟨_, rfl⟩
          have hnm := rnumbers_any _ bs 1 wr HU.out (by have := HXL.out; omega) (by omega)
          rw [hR] at hnm
          have HR := Lib.hid hR
          have HNM := Lib.hid hnm
          clear hR hnm
          rcases R with _ | ns
          · have HPN := Lib.hid (show rputL m 3 bs = none by simp [rputL, roneL, HR.out])
            go_wp2_with (go_at_call 48; refine HNM.out.mono ?_; rintro e w8 ⟨v8, rfl, ho8, hb8⟩; obtain ⟨a8, c8, hv⟩ := ho8.ints.len; subst hv; have HO8 := Lib.hid ho8; have hnj8 := Grew.cell hb8 hnj'; have HB8 := Lib.hid hb8; have HF8 := Lib.hid (HF.out.of_new hb8); clear ho8 hb8)
            go_roundw
            case rel => exact ⟨j + 1, m, s, false, by omega, by go_num, rfl, HF8.out, HHI.out, HN.out HPN.out, HK.out.below HB8.out, H6N.out, H7N.out⟩
            case measure => simp [intOf]; omega
          · by_cases h1 : ns.length = 1
            · obtain ⟨n, rfl⟩ := List.length_eq_one_iff.1 h1
              have HPS := Lib.hid (show rputL m 3 bs = some { m with piece := n } by simp [rputL, roneL, HR.out])
              clear h1
              go_wp2_with (go_at_call 48; refine HNM.out.mono ?_; rintro e w8 ⟨v8, rfl, ho8, hb8⟩; rw [Option.getD_some] at ho8; obtain ⟨g8, off8, c8, hv, hg8, hcl⟩ := ho8.ints.cell (by simp); have hn8 := hcl 0 (by simp); simp only [List.getD_cons_zero, Nat.add_zero] at hn8; subst hv; clear hcl; have hF8 := HF.out.of_new hb8; have hf8 := hF8.free 33; have hc8 := hF8.o.piece; clear hF8; have HO8 := Lib.hid ho8; have hnj8 := Grew.cell hb8 hnj'; have HB8 := Lib.hid hb8; have HF8 := Lib.hid (HF.out.of_new hb8); clear ho8 hb8)
              go_roundw
              case rel => exact ⟨j + 1, { m with piece := n }, s, f, by omega, by go_num, rfl, HF8.out.setPiece _, HHI.out, HS.out _ HPS.out, (HK.out.below HB8.out).setCell (p := ⟨G, 33, none⟩) (fun h => h rfl) _, H6N.out, H7N.out⟩
              case measure => simp [intOf]; omega
            · have HPN := Lib.hid (show rputL m 3 bs = none by simp [rputL, roneL, HR.out, h1])
              have t1 : ((ns.length : Int) == 1) = false := beq_eq_false_iff_ne.2 (by omega)
              have h1i : ¬ (ns.length : Int) = 1 := by omega
              go_wp2_with (go_at_call 48; refine HNM.out.mono ?_; rintro e w8 ⟨v8, rfl, ho8, hb8⟩; rw [Option.getD_some] at ho8; obtain ⟨a8, c8, hv⟩ := ho8.ints.len; subst hv; have HO8 := Lib.hid ho8; have hnj8 := Grew.cell hb8 hnj'; have HB8 := Lib.hid hb8; have HF8 := Lib.hid (HF.out.of_new hb8); clear ho8 hb8)
              go_roundw
              case rel => exact ⟨j + 1, m, s, false, by omega, by go_num, rfl, HF8.out, HHI.out, HN.out HPN.out, HK.out.below HB8.out, H6N.out, H7N.out⟩
              case measure => simp [intOf]; omega
      by_cases c8 : ci = 8
      · as_aux_lemma =>
          subst c8
          obtain ⟨R, hR⟩ : ∃ R, rnumsL bs 1 = R := ⟨_, rfl⟩
          have hnm := rnumbers_any _ bs 1 wr HU.out (by have := HXL.out; omega) (by omega)
          rw [hR] at hnm
          have HR := Lib.hid hR
          have HNM := Lib.hid hnm
          clear hR hnm
          rcases R with _ | ns
          · have HPN := Lib.hid (show rputL m 8 bs = none by simp [rputL, roneL, HR.out])
            go_wp2_with (go_at_call 48; refine HNM.out.mono ?_; rintro e w8 ⟨v8, rfl, ho8, hb8⟩; obtain ⟨a8, c8, hv⟩ := ho8.ints.len; subst hv; have HO8 := Lib.hid ho8; have hnj8 := Grew.cell hb8 hnj'; have HB8 := Lib.hid hb8; have HF8 := Lib.hid (HF.out.of_new hb8); clear ho8 hb8)
            go_roundw
            case rel => exact ⟨j + 1, m, s, false, by omega, by go_num, rfl, HF8.out, HHI.out, HN.out HPN.out, HK.out.below HB8.out, H6N.out, H7N.out⟩
            case measure => simp [intOf]; omega
          · by_cases h1 : ns.length = 1
            · obtain ⟨n, rfl⟩ := List.length_eq_one_iff.1 h1
              have HPS := Lib.hid (show rputL m 8 bs = some { m with seed := n == 1 } by simp [rputL, roneL, HR.out])
              clear h1
              go_wp2_with (go_at_call 48; refine HNM.out.mono ?_; rintro e w8 ⟨v8, rfl, ho8, hb8⟩; rw [Option.getD_some] at ho8; obtain ⟨g8, off8, c8, hv, hg8, hcl⟩ := ho8.ints.cell (by simp); have hn8 := hcl 0 (by simp); simp only [List.getD_cons_zero, Nat.add_zero] at hn8; subst hv; clear hcl; have hF8 := HF.out.of_new hb8; have hf8 := hF8.free 38; have hc8 := hF8.o.seed; clear hF8; have HO8 := Lib.hid ho8; have hnj8 := Grew.cell hb8 hnj'; have HB8 := Lib.hid hb8; have HF8 := Lib.hid (HF.out.of_new hb8); clear ho8 hb8)
              go_roundw
              case rel => exact ⟨j + 1, { m with seed := n == 1 }, s, f, by omega, by go_num, rfl, HF8.out.setSeed _, HHI.out, HS.out _ HPS.out, (HK.out.below HB8.out).setCell (p := ⟨G, 38, none⟩) (fun h => h rfl) _, H6N.out, H7N.out⟩
              case measure => simp [intOf]; omega
            · have HPN := Lib.hid (show rputL m 8 bs = none by simp [rputL, roneL, HR.out, h1])
              have t1 : ((ns.length : Int) == 1) = false := beq_eq_false_iff_ne.2 (by omega)
              have h1i : ¬ (ns.length : Int) = 1 := by omega
              go_wp2_with (go_at_call 48; refine HNM.out.mono ?_; rintro e w8 ⟨v8, rfl, ho8, hb8⟩; rw [Option.getD_some] at ho8; obtain ⟨a8, c8, hv⟩ := ho8.ints.len; subst hv; have HO8 := Lib.hid ho8; have hnj8 := Grew.cell hb8 hnj'; have HB8 := Lib.hid hb8; have HF8 := Lib.hid (HF.out.of_new hb8); clear ho8 hb8)
              go_roundw
              case rel => exact ⟨j + 1, m, s, false, by omega, by go_num, rfl, HF8.out, HHI.out, HN.out HPN.out, HK.out.below HB8.out, H6N.out, H7N.out⟩
              case measure => simp [intOf]; omega
      by_cases c2 : ci = 2
      · as_aux_lemma =>
          subst c2
          by_cases h32 : bs.length = 32
          · have HPS := Lib.hid (rput2 (m := m) h32)
            have hdg := rdigest_any _ bs wr HU.out h32
            have h32i : (bs.length : Int) = 32 := by omega
            have t1 : ((bs.length : Int) == 32) = true := beq_iff_eq.2 h32i
            have HDG := Lib.hid hdg
            have H32 := Lib.hid h32
            clear hdg h32 h32i
            go_wp2_with (go_at_call 49; refine HDG.out.mono ?_; rintro e w8 ⟨rfl, hb8⟩; obtain ⟨w9, hS, hMF, hKP⟩ := (HF.out.of_new hb8).setHash bs H32.out; have HB8 := Lib.hid hb8; have HMF := Lib.hid hMF; have HKP := Lib.hid hKP; clear hb8 hMF hKP)
            go_roundw
            case rel => exact ⟨j + 1, { m with hash := bs }, s, f, by omega, by go_num, rfl, HMF.out, HHI.out, HS.out _ HPS.out, (HK.out.below HB8.out).trans HKP.out, H6N.out, H7N.out⟩
            case measure => simp [intOf]; omega
          · have HPN := Lib.hid (show rputL m 2 bs = none by simp [rputL, h32])
            have h32i : ¬ (bs.length : Int) = 32 := by omega
            have t1 : ((bs.length : Int) == 32) = false := beq_eq_false_iff_ne.2 h32i
            clear h32
            go_wp2
            go_roundw
            case rel => exact ⟨j + 1, m, s, false, by omega, by go_num, rfl, HF.out, HHI.out, HN.out HPN.out, HK.out, H6N.out, H7N.out⟩
            case measure => simp [intOf]; omega
      by_cases c4 : ci = 4
      · as_aux_lemma =>
          subst c4
          obtain ⟨R, hR⟩ : ∃ R, rnumsL bs 64 = R := ⟨_, rfl⟩
          have hnm := rnumbers_any _ bs 64 wr HU.out (by have := HXL.out; omega) (by omega)
          rw [hR] at hnm
          have HR := Lib.hid hR
          have HNM := Lib.hid hnm
          clear hR hnm
          rcases R with _ | ns
          · have HPN := Lib.hid (show rputL m 4 bs = none by simp [rputL, HR.out])
            go_wp2_with (go_at_call 48; refine HNM.out.mono ?_; rintro e w8 ⟨v8, rfl, ho8, hb8⟩; obtain ⟨a8, c8, hv⟩ := ho8.ints.len; subst hv; have HO8 := Lib.hid ho8; have hnj8 := Grew.cell hb8 hnj'; have HB8 := Lib.hid hb8; have HF8 := Lib.hid (HF.out.of_new hb8); clear ho8 hb8)
            go_roundw
            case rel => exact ⟨j + 1, m, s, false, by omega, by go_num, rfl, HF8.out, HHI.out, HN.out HPN.out, HK.out.below HB8.out, H6N.out, H7N.out⟩
            case measure => simp [intOf]; omega
          · have HPS := Lib.hid (show rputL m 4 bs = some { m with ids := ns } by simp [rputL, HR.out])
            go_wp2_with (go_at_call 48; refine HNM.out.mono ?_; rintro e w8 ⟨v8, rfl, ho8, hb8⟩; rw [Option.getD_some] at ho8; obtain ⟨a8, c8, hv⟩ := ho8.ints.len; subst hv; have hF8 := HF.out.of_new hb8; have hf8 := hF8.free 34; have hc8 := hF8.o.ids; clear hF8; have HO8 := Lib.hid ho8; have hnj8 := Grew.cell hb8 hnj'; have HB8 := Lib.hid hb8; have HF8 := Lib.hid (HF.out.of_new hb8); clear ho8 hb8)
            go_roundw
            case rel =>
              have hlo := HO8.out.lt
              have hGl := HF.out.o.lt
              have hbr := HBR.out.size
              have hRl := HFR.out.lt
              exact ⟨j + 1, { m with ids := ns }, { s with vi := _ }, f, by omega, by go_num, rfl, HF8.out.setIds _ _ HO8.out.ints (fun q hq => ⟨by have := (hlo q hq).1; omega, (hlo q hq).2⟩), ⟨fun q hq => by have := (hlo q hq).1; omega, HHI.out.2⟩, HS.out _ HPS.out, (HK.out.below HB8.out).setCell (p := ⟨G, 34, none⟩) (fun h => h rfl) _, H6N.out, H7N.out⟩
            case measure => simp [intOf]; omega
      by_cases c5 : ci = 5
      · as_aux_lemma =>
          subst c5
          have HPS := Lib.hid (rput5 (m := m) (b := bs))
          have hf8 := HF.out.free 35
          have hc8 := HF.out.o.bytes
          go_wp2
          go_roundw
          case rel => exact ⟨j + 1, { m with bytes := bs }, { s with vb := _ }, f, by omega, by go_num, rfl, HF.out.setBytes _ _ HU.out HOFF.out, ⟨HHI.out.1, HHU.out, HHI.out.2.2⟩, HS.out _ HPS.out, HK.out.setCell (p := ⟨G, 35, none⟩) (fun h => h rfl) _, H6N.out, H7N.out⟩
          case measure => simp [intOf]; omega
      by_cases c6 : ci = 6
      · as_aux_lemma =>
          subst c6
          obtain ⟨hp0, hvp0⟩ := H6.out ⟨_, List.mem_cons_self .., rfl⟩
          by_cases h32 : bs.length % 32 = 0
          · have HPS := Lib.hid (show rputL m 6 bs = some { m with proof := digsB bs } by simp only [rputL, show ¬ ((6 : Int) = 1) by decide, show ¬ ((6 : Int) = 2) by decide, show ¬ ((6 : Int) = 3) by decide, show ¬ ((6 : Int) = 4) by decide, show ¬ ((6 : Int) = 5) by decide, if_false, if_true, h32, hp0, List.nil_append])
            have hbe : ((bs.length : Int) % 32 == 0) = true := beq_iff_eq.2 (by omega)
            have H32 := Lib.hid h32
            have HP0 := Lib.hid hp0
            have HVP0 := Lib.hid hvp0
            clear h32 hp0 hvp0
            go_wp2
            rename World => w5
            go_loopw [12] (fun kv W' => RPrI w5 G m s bs kv W') (fun kv _ => bs.length - (intOf kv).toNat)
            case atStart => exact ⟨0, [], _, rfl, rfl, Nat.zero_le _, Nat.le_refl _, by simp, by rw [← HP0.out]; rw [show (.slice none 0 0 : Value) = s.vp from HVP0.out.symm]; exact HF.out, OwnD.nil _ _, Kept.refl _ _⟩
            case round =>
              obtain ⟨k, out, pv, rfl, hk32, hkl, hol, hdg, hF5, hO, hK5⟩ := hrel
              have HMF := Lib.hid hF5
              have HK5 := Lib.hid hK5
              have HOO := Lib.hid hO
              obtain ⟨pa, pp, hv⟩ := hO.digs.len
              subst hv
              by_cases hlt2 : k < bs.length
              · have h32l : k + 32 ≤ bs.length := by have := H32.out; omega
                have hbw := HU.out.keptBut hK5 (fun q hq => (HOFF.out q hq).1)
                obtain ⟨tv, hrt, ht, hto⟩ := hbw.part (P := Tryz.prog) (t := 33) Tryz.underlying33 hi hz1 (some (.int .i64 (k : Int))) (some (.int .i64 ((k + 32 : Nat) : Int))) k (k + 32) (by omega) h32l (.inr ⟨.i64, rfl⟩) (.inr ⟨.i64, rfl⟩)
                rw [Nat.add_sub_cancel_left] at ht
                rw [show ((k + 32 : Nat) : Int) = (k : Int) + 32 by omega] at hrt
                have hx : ((bs.drop k).take 32).length = 32 := by simp; omega
                have hst : digsB bs = (out ++ [(bs.drop k).take 32]) ++ digsB (bs.drop (k + 32)) := by
                  rw [hdg, digsB_step (b := bs.drop k) (by simp; omega), List.drop_drop]; simp
                obtain ⟨x, hxe⟩ : ∃ x, (bs.drop k).take 32 = x := ⟨_, rfl⟩
                rw [hxe] at ht hx hst
                have hx32 : Dig32 [x] := fun d hd => by simp at hd; rw [hd]; exact hx
                have hwrap : IntKind.i64.wrap ((k : Int) + 32) = (k : Int) + 32 := IntWalk.i64_in _ (by have := HXL.out; omega)
                have HT := Lib.hid ht
                have HX := Lib.hid hx
                have HX32 := Lib.hid hx32
                have HST2 := Lib.hid hst
                have hco : ∀ w', Grew wr w' → w'.cell? ⟨G, 36, none⟩ = some (.slice pa out.length pp) := fun w' h => ((HMF.out.of_new h).o.proof)
                have hki : (k : Int) < (bs.length : Int) := by omega
                have hsz := hK5.size
                have hG5 := HF.out.o.lt
                clear hF5 hO hK5 hbw hto ht hx hxe hx32 hst hdg
                go_wp2
                refine (wpIn_wide (n := 5)).1 ?_
                refine wpIn_region_early (ro := none) (C := Grew wr) 2 8 9 (by kernel_rfl) (by kernel_rfl) (Grew.start _) (fun c a d v w h => by cases d <;> exact h) ?_
                simp only [List.take_succ_cons, List.take_zero, List.drop_succ_cons, List.drop_zero]
                go_simp
                repeat (first
                  | (go_big_quiet_want; apply quiet_val; (intro w' hw'; go_simp; first | done | rfl); go_simp; go_big_quiet_on)
                  | (go_big_quiet_want; apply quiet_call (f := 49); (intro w' hw'; go_simp; first | done | rfl); (intro w' hw'; exact Grew.call hw' (rdigest_any _ x w' (HT.out.of_new hw') HX.out)); go_simp; go_big_quiet_on)
                  | (go_big_quiet_skip))
                refine wpQuiet_nil ?_
                intro w2x hw2
                refine LateL.cons rfl (wp_buildDigs 1 #[(0, .tmp 134)] [x] rfl rfl (by simp) (by simp) HX32.out (by simp only [List.map_toArray, List.map_cons, List.map_nil]; rfl) ?_)
                intro w3x ho3 hb3 hs3
                have hw3 : Below wr.heap.size wr w3x := below_next hw2 hb3
                refine ⟨hw3, ?_⟩
                refine LateL.nil ?_
                rw [wF_none]
                have HQ3 := HOO.out.of_new hw3
                have hs3' := hw3.size
                have hMF3 := HMF.out.of_new hw3
                refine wpListIn_of_wp rfl (fun c hc => by cases hc) (wp_appD (.tmp 128) (.tmp 135) rfl w5.heap.size _ out rfl HQ3 _ [x] rfl ho3.digs (by simp; have := HXL.out; omega) (by omega) ?_)
                intro v4 w4 ho4 hg4 hu4
                obtain ⟨va4, vc4, hv4⟩ := ho4.digs.len
                subst hv4
                have hrg : some G ≠ (Value.slice pa out.length pp).ownBlock := fun e => by have := (HQ3.lt G e.symm).1; omega
                have hof4 : Off w4 G (.slice va4 (out ++ [x]).length vc4) := fun q hq => by have := ho4.lt q hq; exact ⟨by omega, this.2⟩
                have hMF4 := hMF3.appProof hg4 hrg (fun q hq e => by have := (HQ3.lt q e.symm).1; have := (HF.out.vi q hq).2; omega) (fun q hq e => by have := (HQ3.lt q e.symm).1; have := (HF.out.vb q hq).2; omega) (fun q hq e => by have := (HQ3.lt q e.symm).1; have := (HF.out.vm q hq).2; omega) _ _ ho4.digs hof4
                have hO4 := hMF3.o.of_block (hg4.block G hMF3.o.lt hrg)
                have hf4 : w4.frozen? ⟨G, 36, none⟩ = false := by simp [World.frozen?, hO4.1]
                have hc4 := hO4.proof
                have hK4 : Kept (fun q => q ≠ G) w5 (w4.setCell ⟨G, 36, none⟩ (.slice va4 (out ++ [x]).length vc4)) := by
                  have hA : Kept (fun q => q < w5.heap.size ∧ q ≠ G) wr w4 := ((Kept.refl _ wr).below hw3).grown hg4 (fun r e h => by have := (HQ3.lt r e).1; omega)
                  exact ⟨hA.os.trans HK5.out.os, hA.tape.trans HK5.out.tape, hA.output.trans HK5.out.output, by have := hA.size; simp [World.setCell]; omega, fun q hk hne => (Below.heap_setCell _ _ _ _ (fun e => hne e)).trans ((hA.block q (by omega) ⟨hk, hne⟩).trans (HK5.out.block q hk hne))⟩
                have ho5 : OwnD (w4.setCell ⟨G, 36, none⟩ (.slice va4 (out ++ [x]).length vc4)) w5.heap.size (.slice va4 (out ++ [x]).length vc4) (out ++ [x]) := ho4.kept (U := fun _ => True) (fun q hk2 => Below.heap_setCell _ _ _ _ (by have := (ho4.lt q hk2).1; show q ≠ G; omega))
                rw [List.length_append, List.length_singleton] at hMF4 hK4 ho5 ⊢
                have HMF4 := Lib.hid hMF4
                have HK4 := Lib.hid hK4
                have HO5 := Lib.hid ho5
                clear hMF4 hK4 ho5 hof4 hrg hMF3 HQ3 hs3' hw3 hs3 hb3 ho3 hw2 hg4 hu4 ho4 hO4
                rw [wF_none]
                gi_wp2
                go_wp2
                refine ⟨⟨k + 32, out ++ [x], _, by go_num, by omega, h32l, by simp; omega, HST2.out, HMF4.out, HO5.out, HK4.out⟩, ?_⟩
                simp only [intOf]
                omega
              · have hkb : k = bs.length := by omega
                have hfin : digsB bs = out := by rw [hdg, hkb, List.drop_length, digsB_small (by simp), List.append_nil]
                have hki : ¬ (k : Int) < (bs.length : Int) := by omega
                have HFIN := Lib.hid hfin
                have hlo := hO.lt
                have HLO := Lib.hid hlo
                clear hF5 hO hK5 hdg hfin hlo hkb
                go_wp2
                go_roundw
                case rel =>
                  have hbr := HBR.out.size
                  have hRl := HFR.out.lt
                  refine ⟨j + 1, { m with proof := digsB bs }, { s with vp := .slice pa out.length pp }, f, by omega, by go_num, rfl, by rw [HFIN.out]; exact HMF.out, ⟨HHI.out.1, HHI.out.2.1, fun q hq => by have := (HLO.out q hq).1; omega, HHI.out.2.2.2⟩, HS.out _ HPS.out, HK.out.trans HK5.out, fun ⟨z, hz, e⟩ => absurd e (HNE.out z hz), H7N.out⟩
                case measure => simp [intOf]; omega
          · have HPN := Lib.hid (show rputL m 6 bs = none by simp [rputL, h32])
            have h32i : ¬ (bs.length : Int) % 32 = 0 := by omega
            have t1 : ((bs.length : Int) % 32 == 0) = false := beq_eq_false_iff_ne.2 h32i
            clear h32 hp0 hvp0
            go_wp2
            go_roundw
            case rel => exact ⟨j + 1, m, s, false, by omega, by go_num, rfl, HF.out, HHI.out, HN.out HPN.out, HK.out, H6N.out, H7N.out⟩
            case measure => simp [intOf]; omega
      by_cases c7 : ci = 7
      · as_aux_lemma =>
          subst c7
          obtain ⟨R, hR⟩ : ∃ R, rnumsL bs 195 = R := ⟨_, rfl⟩
          have hnm := rnumbers_any _ bs 195 wr HU.out (by have := HXL.out; omega) (by omega)
          rw [hR] at hnm
          have HR := Lib.hid hR
          have HNM := Lib.hid hnm
          clear hR hnm
          obtain ⟨hp0, hvp0⟩ := H7.out ⟨_, List.mem_cons_self .., rfl⟩
          rcases R with _ | ns
          · have HPN := Lib.hid (show rputL m 7 bs = none by simp [rputL, HR.out])
            clear hp0 hvp0
            go_wp2_with (go_at_call 48; refine HNM.out.mono ?_; rintro e w8 ⟨v8, rfl, ho8, hb8⟩; obtain ⟨a8, c8, hv⟩ := ho8.ints.len; subst hv; have HO8 := Lib.hid ho8; have hnj8 := Grew.cell hb8 hnj'; have HB8 := Lib.hid hb8; have HF8 := Lib.hid (HF.out.of_new hb8); clear ho8 hb8)
            go_roundw
            case rel => exact ⟨j + 1, m, s, false, by omega, by go_num, rfl, HF8.out, HHI.out, HN.out HPN.out, HK.out.below HB8.out, H6N.out, H7N.out⟩
            case measure => simp [intOf]; omega
          · by_cases h3 : ns.length % 3 = 0
            · have HPS := Lib.hid (show rputL m 7 bs = some { m with members := memsB ns } by simp only [rputL, show ¬ ((7 : Int) = 1) by decide, show ¬ ((7 : Int) = 2) by decide, show ¬ ((7 : Int) = 3) by decide, show ¬ ((7 : Int) = 4) by decide, show ¬ ((7 : Int) = 5) by decide, show ¬ ((7 : Int) = 6) by decide, if_false, if_true, HR.out, Option.bind_some, h3, hp0, List.nil_append])
              have hnl : ns.length ≤ 195 := by
                have h := HR.out
                unfold rnumsL at h
                split at h
                · rename_i hc; cases h; exact hc.2
                · cases h
              have hbe : ((ns.length : Int) % 3 == 0) = true := beq_iff_eq.2 (by omega)
              have H3 := Lib.hid h3
              have HP0 := Lib.hid hp0
              have HVP0 := Lib.hid hvp0
              clear h3 hp0 hvp0
              go_wp2_with (go_at_call 48; refine HNM.out.mono ?_; rintro e w8 ⟨v8, rfl, ho8, hb8⟩; rw [Option.getD_some] at ho8; obtain ⟨a8, c8, hv⟩ := ho8.ints.len; subst hv; have hnj8 := Grew.cell hb8 hnj'; have HO8 := Lib.hid ho8; have HB8 := Lib.hid hb8; have HF8 := Lib.hid (HF.out.of_new hb8); clear ho8 hb8)
              go_loopw [13] (fun kv W' => RMeI w8 G m s ns kv W') (fun kv _ => ns.length - (intOf kv).toNat)
              case atStart => exact ⟨0, [], _, rfl, rfl, Nat.zero_le _, Nat.le_refl _, by simp, by rw [← HP0.out]; rw [show (.slice none 0 0 : Value) = s.vm from HVP0.out.symm]; exact HF8.out, OwnM.nil _ _, Kept.refl _ _⟩
              case round =>
                rename World => w9
                obtain ⟨k, out, pv, rfl, hk3, hkl, hol, hdg, hF5, hO, hK5⟩ := hrel
                have HMF := Lib.hid hF5
                have HK5 := Lib.hid hK5
                have HOO := Lib.hid hO
                obtain ⟨pa, pp, hv⟩ := hO.mems.len
                subst hv
                by_cases hlt2 : k < ns.length
                · have h3l : k + 3 ≤ ns.length := by have := H3.out; omega
                  obtain ⟨n0, n1, n2, rr, hrr, hrl⟩ := three_of (l := ns.drop k) (by simp; omega)
                  obtain ⟨cg, coff, cc, hv, hcg, hcell⟩ := HO8.out.ints.cell (by omega)
                  obtain ⟨rfl, rfl⟩ : a8 = some ⟨cg, coff, none⟩ ∧ c8 = cc := by simp only [Value.slice.injEq] at hv; exact ⟨hv.1, hv.2.2⟩
                  have hG8 := HF.out.o.lt
                  have hcgg : cg ≠ G := by have := (HO8.out.lt cg rfl).1; omega
                  have hcr : ∀ q, q < ns.length → w9.cell? ⟨cg, coff + q, none⟩ = some (.int .i64 (ns.getD q 0)) := fun q hq => (hK5.cell (p := ⟨cg, coff + q, none⟩) hcg hcgg).trans (hcell q hq)
                  have hq0 := hcr k (by omega)
                  have hq1 := hcr (k + 1) (by omega)
                  have hq2 := hcr (k + 2) (by omega)
                  have hgd : ∀ q, ns.getD (k + q) 0 = (n0 :: n1 :: n2 :: rr).getD q 0 := fun q => by rw [← hrr]; simp [List.getD]
                  rw [show k = k + 0 from rfl, hgd 0] at hq0
                  rw [hgd 1] at hq1
                  rw [hgd 2] at hq2
                  simp only [List.getD_cons_zero, List.getD_cons_succ, Nat.add_zero] at hq0 hq1 hq2
                  have hst : memsB ns = (out ++ [MemL.mk n0 n1 n2 0]) ++ memsB (ns.drop (k + 3)) := by
                    rw [hdg, ← List.drop_drop, hrr]; simp [memsB]
                  have hg0 : ∀ w', Grew w9 w' → w'.cell? ⟨cg, coff + k, none⟩ = some (.int .i64 n0) := fun w' h => Grew.cell h hq0
                  have hg1 : ∀ w', Grew w9 w' → w'.cell? ⟨cg, coff + (k + 1), none⟩ = some (.int .i64 n1) := fun w' h => Grew.cell h hq1
                  have hg2 : ∀ w', Grew w9 w' → w'.cell? ⟨cg, coff + (k + 2), none⟩ = some (.int .i64 n2) := fun w' h => Grew.cell h hq2
                  have hco : ∀ w', Grew w9 w' → w'.cell? ⟨G, 37, none⟩ = some (.slice pa out.length pp) := fun w' h => ((HMF.out.of_new h).o.members)
                  have hw1 : IntKind.i64.wrap ((k : Int) + 1) = (k : Int) + 1 := IntWalk.i64_in _ (by omega)
                  have hw2 : IntKind.i64.wrap ((k : Int) + 2) = (k : Int) + 2 := IntWalk.i64_in _ (by omega)
                  have ht1 : ((k : Int) + 1).toNat = k + 1 := by omega
                  have ht2 : ((k : Int) + 2).toNat = k + 2 := by omega
                  have hk0 : (k : Int) < (ns.length : Int) := by omega
                  have hk1 : (k : Int) + 1 < (ns.length : Int) := by omega
                  have hk2 : (k : Int) + 2 < (ns.length : Int) := by omega
                  have hp1 : (0 : Int) ≤ (k : Int) + 1 := by omega
                  have hp2 : (0 : Int) ≤ (k : Int) + 2 := by omega
                  have HST2 := Lib.hid hst
                  have hsz := hK5.size
                  have HBZ := Lib.hid HB8.out.size
                  clear hF5 hO hK5 hdg hcr hcell hq0 hq1 hq2 hgd hst hrr hrl hv
                  go_wp2
                  refine (wpIn_wide (n := 5)).1 ?_
                  refine wpIn_region_early (ro := none) (C := Grew w9) 2 17 18 (by kernel_rfl) (by kernel_rfl) (Grew.start _) (fun c a d v w h => by cases d <;> exact h) ?_
                  simp only [List.take_succ_cons, List.take_zero, List.drop_succ_cons, List.drop_zero]
                  go_simp
                  repeat (first
                    | (go_big_quiet_want; apply quiet_val; (intro w' hw'; go_simp; first | done | rfl); go_simp; go_big_quiet_on)
                    | (go_big_quiet_skip))
                  refine wpQuiet_nil ?_
                  intro w2x hw2x
                  refine LateL.cons rfl (wp_buildMem (.tmp 162) (MemL.mk n0 n1 n2 0) rfl rfl ?_)
                  intro w3x hm3 hb3 hs3
                  have hw3 : Below w9.heap.size w9 w3x := below_next hw2x hb3
                  refine ⟨hw3, ?_⟩
                  refine LateL.nil ?_
                  rw [wF_none]
                  have HQ3 := HOO.out.of_new hw3
                  have hs3' := hw3.size
                  have hMF3 := HMF.out.of_new hw3
                  have hBZ := HBZ.out
                  refine wpListIn_of_wp rfl (fun c hc => by cases hc) (wp_appM (.tmp 147) (.tmp 163) rfl w8.heap.size _ out rfl HQ3 _ [MemL.mk n0 n1 n2 0] rfl hm3 (by simp; omega) (by omega) ?_)
                  intro v4 w4 ho4 hg4 hu4
                  obtain ⟨va4, vc4, hv4⟩ := ho4.mems.len
                  subst hv4
                  have hrg : some G ≠ (Value.slice pa out.length pp).ownBlock := fun e => by have := (HQ3.lt G e.symm).1; omega
                  have hof4 : Off w4 G (.slice va4 (out ++ [MemL.mk n0 n1 n2 0]).length vc4) := fun q hq => by have := ho4.lt q hq; exact ⟨by omega, this.2⟩
                  have hMF4 := hMF3.appMems hg4 hrg (fun q hq e => by have := (HQ3.lt q e.symm).1; have := (HF8.out.vi q hq).2; omega) (fun q hq e => by have := (HQ3.lt q e.symm).1; have := (HF8.out.vb q hq).2; omega) (fun q hq e => by have := (HQ3.lt q e.symm).1; have := (HF8.out.vp q hq).2; omega) _ _ ho4.mems hof4
                  have hO4 := hMF3.o.of_block (hg4.block G hMF3.o.lt hrg)
                  have hf4 : w4.frozen? ⟨G, 37, none⟩ = false := by simp [World.frozen?, hO4.1]
                  have hc4 := hO4.members
                  have hK4 : Kept (fun q => q ≠ G) w8 (w4.setCell ⟨G, 37, none⟩ (.slice va4 (out ++ [MemL.mk n0 n1 n2 0]).length vc4)) := by
                    have hA : Kept (fun q => q < w8.heap.size ∧ q ≠ G) w9 w4 := ((Kept.refl _ w9).below hw3).grown hg4 (fun r e h => by have := (HQ3.lt r e).1; omega)
                    exact ⟨hA.os.trans HK5.out.os, hA.tape.trans HK5.out.tape, hA.output.trans HK5.out.output, by have := hA.size; simp [World.setCell]; omega, fun q hk hne => (Below.heap_setCell _ _ _ _ (fun e => hne e)).trans ((hA.block q (by omega) ⟨hk, hne⟩).trans (HK5.out.block q hk hne))⟩
                  have ho5 : OwnM (w4.setCell ⟨G, 37, none⟩ (.slice va4 (out ++ [MemL.mk n0 n1 n2 0]).length vc4)) w8.heap.size (.slice va4 (out ++ [MemL.mk n0 n1 n2 0]).length vc4) (out ++ [MemL.mk n0 n1 n2 0]) := ho4.kept (fun q hk2 => Below.heap_setCell _ _ _ _ (by have := (ho4.lt q hk2).1; show q ≠ G; omega))
                  rw [List.length_append, List.length_singleton] at hMF4 hK4 ho5 ⊢
                  have HMF4 := Lib.hid hMF4
                  have HK4 := Lib.hid hK4
                  have HO5 := Lib.hid ho5
                  clear hMF4 hK4 ho5 hof4 hrg hMF3 HQ3 hs3' hw3 hs3 hb3 hm3 hw2x hg4 hu4 ho4 hO4 hw1 hw2 ht1 ht2
                  rw [wF_none]
                  gi_wp2
                  go_wp2
                  refine ⟨⟨k + 3, out ++ [MemL.mk n0 n1 n2 0], _, by go_num, by omega, h3l, by simp; omega, HST2.out, HMF4.out, HO5.out, HK4.out⟩, ?_⟩
                  simp only [intOf]
                  omega
                · have hkb : k = ns.length := by omega
                  have hfin : memsB ns = out := by rw [hdg, hkb, List.drop_length, memsB_small (by simp), List.append_nil]
                  have hki : ¬ (k : Int) < (ns.length : Int) := by omega
                  have HFIN := Lib.hid hfin
                  have hlo := hO.lt
                  have HLO := Lib.hid hlo
                  clear hF5 hO hK5 hdg hfin hlo hkb
                  go_wp2
                  go_roundw
                  case rel =>
                    have hbr := HBR.out.size
                    have hRl := HFR.out.lt
                    have hb8 := HB8.out.size
                    refine ⟨j + 1, { m with members := memsB ns }, { s with vm := .slice pa out.length pp }, f, by omega, by go_num, rfl, by rw [HFIN.out]; exact HMF.out, ⟨HHI.out.1, HHI.out.2.1, HHI.out.2.2.1, fun q hq => by have := (HLO.out q hq).1; omega⟩, HS.out _ HPS.out, (HK.out.below HB8.out).trans HK5.out, H6N.out, fun ⟨z, hz, e⟩ => absurd e (HNE.out z hz)⟩
                  case measure => simp [intOf]; omega
            · have HPN := Lib.hid (show rputL m 7 bs = none by simp [rputL, HR.out, h3])
              have h3i : ¬ (ns.length : Int) % 3 = 0 := by omega
              have t1 : ((ns.length : Int) % 3 == 0) = false := beq_eq_false_iff_ne.2 h3i
              clear h3 hp0 hvp0
              go_wp2_with (go_at_call 48; refine HNM.out.mono ?_; rintro e w8 ⟨v8, rfl, ho8, hb8⟩; rw [Option.getD_some] at ho8; obtain ⟨a8, c8, hv⟩ := ho8.ints.len; subst hv; have HO8 := Lib.hid ho8; have hnj8 := Grew.cell hb8 hnj'; have HB8 := Lib.hid hb8; have HF8 := Lib.hid (HF.out.of_new hb8); clear ho8 hb8)
              go_roundw
              case rel => exact ⟨j + 1, m, s, false, by omega, by go_num, rfl, HF8.out, HHI.out, HN.out HPN.out, HK.out.below HB8.out, H6N.out, H7N.out⟩
              case measure => simp [intOf]; omega
      have HPS := Lib.hid (show rputL m ci bs = some m by simp [rputL, c1, c2, c3, c4, c5, c6, c7, c8])
      have t1 : (ci == 1) = false := beq_eq_false_iff_ne.2 c1
      have t2 : (ci == 2) = false := beq_eq_false_iff_ne.2 c2
      have t3 : (ci == 3) = false := beq_eq_false_iff_ne.2 c3
      have t4 : (ci == 4) = false := beq_eq_false_iff_ne.2 c4
      have t5 : (ci == 5) = false := beq_eq_false_iff_ne.2 c5
      have t6 : (ci == 6) = false := beq_eq_false_iff_ne.2 c6
      have t7 : (ci == 7) = false := beq_eq_false_iff_ne.2 c7
      have t8 : (ci == 8) = false := beq_eq_false_iff_ne.2 c8
      go_wp2
      go_roundw
      case rel => exact ⟨j + 1, m, s, f, by omega, by go_num, rfl, HF.out, HHI.out, HS.out _ HPS.out, HK.out, H6N.out, H7N.out⟩
      case measure => simp [intOf]; omega
    · obtain rfl : j = l.length := by omega
      rw [List.drop_length] at hr
      have hr' : res = (m, f) := hr.symm
      subst hr'
      have hde := HDEC.out
      dsimp only at hde
      have hEn := fun W (h : MsgR W m s) => REncode17_any m s W h
      have HFM := Lib.hid hF
      have HHI := Lib.hid hhi
      clear hr hF hhi hK h6 h7
      obtain ⟨E, hE⟩ : ∃ E, encM m = E := ⟨_, rfl⟩
      rw [hE] at hde hEn
      have HEN := Lib.hid hEn
      clear hE hEn
      go_upto_region 53 with (first
      | ((with_reducible refine wpList_plain (o := ⟨some 174, Op.load 37 _, _, _, _, _⟩) rfl fun K hK => ?_); (refine wp_load_msg (g := G) rfl rfl HFM.out.o (hK _ _ ?_)))
          | (go_at_call 14; refine (HEN.out _ HFM.out.r).mono ?_; intro e w8 hp; obtain ⟨v8, rfl, hv8, hb8⟩ := hp.both; obtain ⟨a8, c8, hv⟩ := hv8.len; subst hv; have HV8 := Lib.hid hv8; have HFR8 := Lib.hid (HFR.out.of_new hb8); have HB8 := Lib.hid (below_next HBR.out hb8); have HFM8 := Lib.hid (HFM.out.of_new hb8); clear hp hv8 hb8))
      have s1 := (HV8.out).string (P := Tryz.prog) (t := 33) (d := 9) Tryz.underlying33 Tryz.underlying5 Tryz.underlying9
      have s2 := (Bytes.of_new HL.out HB8.out).string (P := Tryz.prog) (t := 33) (d := 9) Tryz.underlying33 Tryz.underlying5 Tryz.underlying9
      by_cases hall : f = true ∧ E = some b
      · obtain ⟨rfl, rfl⟩ := hall
        rw [if_pos ⟨rfl, rfl⟩] at hde
        have HDS := Lib.hid hde
        have e3 := str_same b
        have e0 : errE (some b) = 0 := rfl
        rw [Option.getD_some] at s1 HV8
        have e4 : (b == b) = true := by simp
        clear hde
        go_wp2_with (first
      | ((with_reducible refine wpList_plain (o := ⟨some 192, Op.load 37 _, _, _, _, _⟩) rfl fun K hK => ?_); (refine wp_load_msg (g := G) rfl rfl HFM8.out.o (hK _ _ ?_)))
          | ((with_reducible refine wpList_plain (o := ⟨none, Op.store _ (.tmp 2) (.tmp 192), _, _, _, _⟩) rfl fun K hK => ?_); (refine wp_store_msg (.tmp 2) (.tmp 192) w.heap.size m msgZ s sN rfl rfl rfl HFM8.out.r HFR8.out fun wF hOF hgF hsF => hK _ _ ?_); have HOF := Lib.hid hOF; have HGF := Lib.hid hgF; have HSF := Lib.hid hsF; clear hOF hgF hsF))
        refine bodyPost_ret (results_msg rfl _ rfl rfl HOF.out) rfl ?_
        have hrr := HFM8.out.r
        obtain ⟨g1, g2, g3, g4⟩ := HHI.out
        refine ⟨m, s, by rw [HDS.out]; rfl, by rw [HDS.out]; rfl, ⟨hrr.hash, Row.of_kept hrr.ids HGF.out (fun q hq e => ?_), Row.of_kept hrr.bytes HGF.out (fun q hq e => ?_), ⟨hrr.proof.1, Row.of_kept hrr.proof.2 HGF.out (fun q hq e => ?_)⟩, Row.of_kept hrr.members HGF.out (fun q hq e => ?_)⟩, HB8.out.grown HGF.out (by have := HB8.out.size; omega) (fun k e => by cases e; omega)⟩
        · have := g1 q hq; cases e; omega
        · have := g2 q hq; cases e; omega
        · have := g3 q hq; cases e; omega
        · have := g4 q hq; cases e; omega
      · rw [if_neg hall] at hde
        have HDN := Lib.hid hde
        clear hde
        rcases f with _ | _
        · clear s1 s2
          go_wp2_with (first
            | ((with_reducible refine wpList_plain (o := ⟨some 191, Op.build _ _, _, _, _, _⟩) rfl fun K hK => ?_); (refine wp_val (v := MsgV msgZ sN) (by unfold execOp; simp only [List.map_toArray, List.map_nil, build_msg, Sem.run_bind, Result.andThen_ok, Sem.run_pure]) (hK _ _ ?_)))
            | ((with_reducible refine wpList_plain (o := ⟨none, Op.store _ (.tmp 2) (.tmp 191), _, _, _, _⟩) rfl fun K hK => ?_); (refine wp_store_msg (.tmp 2) (.tmp 191) w.heap.size msgZ msgZ sN sN rfl rfl rfl (msgR_zero _) HFR8.out fun wF hOF hgF hsF => hK _ _ ?_); have HOF := Lib.hid hOF; have HGF := Lib.hid hgF; have HSF := Lib.hid hsF; clear hOF hgF hsF))
          refine bodyPost_ret (results_msg rfl _ rfl rfl HOF.out) rfl ?_
          exact fail_msg HDN.out (HB8.out.grown HGF.out (by have := HB8.out.size; omega) (fun k e => by cases e; omega))
        · rcases E with _ | c
          · have e0 : errE (none : Option (List UInt8)) = 1 := rfl
            clear s1 s2
            go_wp2_with (first
            | ((with_reducible refine wpList_plain (o := ⟨some 191, Op.build _ _, _, _, _, _⟩) rfl fun K hK => ?_); (refine wp_val (v := MsgV msgZ sN) (by unfold execOp; simp only [List.map_toArray, List.map_nil, build_msg, Sem.run_bind, Result.andThen_ok, Sem.run_pure]) (hK _ _ ?_)))
            | ((with_reducible refine wpList_plain (o := ⟨none, Op.store _ (.tmp 2) (.tmp 191), _, _, _, _⟩) rfl fun K hK => ?_); (refine wp_store_msg (.tmp 2) (.tmp 191) w.heap.size msgZ msgZ sN sN rfl rfl rfl (msgR_zero _) HFR8.out fun wF hOF hgF hsF => hK _ _ ?_); have HOF := Lib.hid hOF; have HGF := Lib.hid hgF; have HSF := Lib.hid hsF; clear hOF hgF hsF))
            refine bodyPost_ret (results_msg rfl _ rfl rfl HOF.out) rfl ?_
            exact fail_msg HDN.out (HB8.out.grown HGF.out (by have := HB8.out.size; omega) (fun k e => by cases e; omega))
          · have hcb : c ≠ b := fun e => hall ⟨rfl, by rw [e]⟩
            have e0 : errE (some c) = 0 := rfl
            have e3 := str_eq c b
            rw [show decide (c = b) = false by simp [hcb]] at e3
            rw [Option.getD_some] at s1 HV8
            have e4 : (c == b) = false := by simp [hcb]
            have e5 : (c.toArray == b.toArray) = false := by simp [hcb]
            have e6 : decide (c = b) = false := by simp [hcb]
            clear hall
            go_wp2_with (first
            | ((with_reducible refine wpList_plain (o := ⟨some 191, Op.build _ _, _, _, _, _⟩) rfl fun K hK => ?_); (refine wp_val (v := MsgV msgZ sN) (by unfold execOp; simp only [List.map_toArray, List.map_nil, build_msg, Sem.run_bind, Result.andThen_ok, Sem.run_pure]) (hK _ _ ?_)))
            | ((with_reducible refine wpList_plain (o := ⟨none, Op.store _ (.tmp 2) (.tmp 191), _, _, _, _⟩) rfl fun K hK => ?_); (refine wp_store_msg (.tmp 2) (.tmp 191) w.heap.size msgZ msgZ sN sN rfl rfl rfl (msgR_zero _) HFR8.out fun wF hOF hgF hsF => hK _ _ ?_); have HOF := Lib.hid hOF; have HGF := Lib.hid hgF; have HSF := Lib.hid hsF; clear hOF hgF hsF))
            refine bodyPost_ret (results_msg rfl _ rfl rfl HOF.out) rfl ?_
            exact fail_msg HDN.out (HB8.out.grown HGF.out (by have := HB8.out.size; omega) (fun k e => by cases e; omega))

end Go.Proofs.YtnohglkilpnjhaaGreatDoor
