/- The walks of manifest.Name and of the reference's: what an image is called. Conditions: the constants of the hash are laid. -/
import Derived.Test.YtnomekfemadpeaaDoorMfEncImg
import Derived.Test.YtnomekfemadpeaaDoorMfRefEncI
import Derived.Test.YtnomekfemadpeaaDoorMfDecImg
import Derived.Test.YtnomekfemadpeaaDoorDigO
import Derived.Test.YtnomekfemadpeaaDoorGa
import Derived.Test.YtnomekfemadpeaaDoorGb
namespace Go.Proofs.YtnomekfemadpeaaDoor
open Go.RowKit
set_option linter.unusedVariables false
set_option linter.unusedSimpArgs false
set_option maxRecDepth 100000

def nameL (l : List BlobL) : List UInt8 := if encGE l = 0 then sumL ((encG l).getD []) else dig0
theorem encG_len (l : List BlobL) : ((encG l).getD []).length ≤ 1099511627776 := by
  cases h : encG l with
  | none => simp
  | some c =>
    unfold encG at h
    split at h
    · have := encL_le h; simp; omega
    · cases h
theorem build_dig0 (w : World) : (Instr.build 25 #[]).run Tryd.prog w = .ok (.agg (dig0.map B8).toArray) w := by kernel_rfl
def NamePost (w : World) (l : List BlobL) (e : Ending) (w' : World) : Prop := e = .returned (.tuple #[.agg ((nameL l).map B8).toArray, .int .i64 (encGE l)]) ∧ Below w.heap.size w w'
theorem name_ok {w w' : World} {l : List BlobL} {E : Int} (h : encGE l = E) (h0 : E = 0) (hb : Below w.heap.size w w') : NamePost w l (.returned (.tuple #[.agg ((sumL ((encG l).getD [])).map B8).toArray, .int .i64 0])) w' := by
  subst h0
  exact ⟨by unfold nameL; rw [if_pos h, h], hb⟩
theorem name_bad {w w' : World} {l : List BlobL} {E : Int} (h : encGE l = E) (h0 : E ≠ 0) (hb : Below w.heap.size w w') : NamePost w l (.returned (.tuple #[.agg (dig0.map B8).toArray, .int .i64 E])) w' := by
  subst h
  exact ⟨by unfold nameL; rw [if_neg h0], hb⟩

set_option maxHeartbeats 3200000 in
theorem Name_any (v : Value) (l : List BlobL) (w : World) (hl : RBlob.Row w v l) (hK : Consts w) : Calls Tryd.prog 30 #[.agg #[v]] w (NamePost w l) := by
  obtain ⟨a, c, hv⟩ := hl.len
  subst hv
  have hle := hl.le
  obtain ⟨W, hW⟩ : ∃ W, w.alloc (.cells #[.slice a l.length c] 52) = W := ⟨_, rfl⟩
  have ho : RImg.O W w.heap.size (.slice a l.length c) := by rw [← hW]; exact ⟨heap_alloc_new w _, rfl⟩
  have hb : Below w.heap.size w W := by rw [← hW]; exact (Below.refl _ w).alloc (Nat.le_refl _) _
  have hE := fun W' h => EncImg_any (.slice a l.length c) l W' h
  obtain ⟨E, hEE⟩ : ∃ E, encGE l = E := ⟨_, rfl⟩
  have HL := Lib.hid (hl.of_new hb)
  have HO := Lib.hid ho
  have HW := Lib.hid hW
  have HB := Lib.hid hb
  have HE := Lib.hid hE
  have HEE := Lib.hid hEE
  have HKW := Lib.hid (hK.of_new hb)
  have HS := Lib.hid (fun v W' h hk => Sum_any v ((encG l).getD []) W' h (encG_len l) hk)
  clear hl ho hW hb hE hEE hK
  go_enter Tryd.func30, Tryd.ntmps30
  go_upto_region 1 with (first
    | ((with_reducible refine wpList_plain (o := ⟨some 2, Op.alloc _, _, _, _, _⟩) rfl fun K hK => ?_); rw [HW.out]; (refine wp_alloc_dig rfl fun w1 ho1 hb1 hs1 => hK _ _ ?_); have HO1 := Lib.hid ho1; have HB1 := Lib.hid (below_next HB.out hb1); have HI1 := Lib.hid (HO.out.of_new hb1); have HL1 := Lib.hid (HL.out.of_new hb1); have HK1 := Lib.hid (HKW.out.of_new hb1); have hs1' : w.heap.size < W.heap.size := HO.out.lt; clear ho1 hb1 hs1))
  go_upto_region 2 with (first
    | ((with_reducible refine wpList_plain (o := ⟨some 7, Op.load _ _, _, _, _, _⟩) rfl fun K hK => ?_); (refine HI1.out.at_.wp rfl rfl (hK _ _ ?_)))
    | (go_at_call 28; refine (HE.out _ HL1.out).mono ?_; rintro e w2 ⟨v2, rfl, hbv, hb2⟩; have HV := Lib.hid hbv; have HO2 := Lib.hid (HO1.out.of_new hb2); have HB2 := Lib.hid (below_next HB1.out hb2); have HK2 := Lib.hid (HK1.out.of_new hb2); clear hbv hb2))
  rw [HEE.out]
  by_cases h0 : E = 0
  · have HH := Lib.hid h0
    subst h0
    go_wp2_with (first
      | (go_at_call 38; refine (HS.out _ _ HV.out HK2.out).mono ?_; rintro e w3 ⟨rfl, hb3⟩; have HO3 := Lib.hid (HO2.out.of_new hb3); have HB3 := Lib.hid (below_next HB2.out hb3); clear hb3)
      | ((with_reducible refine wpList_plain (o := ⟨none, Op.store _ (.tmp 2) (.tmp 16), _, _, _, _⟩) rfl fun K hK => ?_); (refine wp_store_digO (.tmp 2) (.tmp 16) W.heap.size (sumL ((encG l).getD [])) dig0 rfl rfl rfl (sumL_len _) HO3.out fun w4 ho4 hg4 hs4 => hK _ _ ?_); have HO4 := Lib.hid ho4; have HG4 := Lib.hid hg4; clear ho4 hg4 hs4))
    refine bodyPost_ret (results_dig_tmp rfl _ rfl rfl HO4.out) rfl ?_
    exact name_ok HEE.out rfl (HB3.out.grown HG4.out (by have := HB3.out.size; omega) (fun k e => by cases e; omega))
  · have t1 : (E == 0) = false := beq_eq_false_iff_ne.2 h0
    have t2 : (E != 0) = true := bne_iff_ne.2 h0
    have H0 := Lib.hid h0
    clear h0
    go_wp2_with (first
      | ((with_reducible refine wpList_plain (o := ⟨some 13, Op.build _ _, _, _, _, _⟩) rfl fun K hK => ?_); (refine wp_val (v := .agg (dig0.map B8).toArray) (by unfold execOp; simp only [List.map_toArray, List.map_nil, build_dig0, Sem.run_bind, Result.andThen_ok, Sem.run_pure]) (hK _ _ ?_)))
      | ((with_reducible refine wpList_plain (o := ⟨none, Op.store _ (.tmp 2) (.tmp 13), _, _, _, _⟩) rfl fun K hK => ?_); (refine wp_store_digO (.tmp 2) (.tmp 13) W.heap.size dig0 dig0 rfl rfl rfl rfl HO2.out fun w4 ho4 hg4 hs4 => hK _ _ ?_); have HO4 := Lib.hid ho4; have HG4 := Lib.hid hg4; clear ho4 hg4 hs4))
    refine bodyPost_ret (results_dig_tmp rfl _ rfl rfl HO4.out) rfl ?_
    exact name_bad HEE.out H0.out (HB2.out.grown HG4.out (by have := HB2.out.size; omega) (fun k e => by cases e; omega))
set_option maxHeartbeats 3200000 in
theorem RName_any (v : Value) (l : List BlobL) (w : World) (hl : RBlob.Row w v l) (hK : Consts w) : Calls Tryd.prog 31 #[.agg #[v]] w (NamePost w l) := by
  obtain ⟨a, c, hv⟩ := hl.len
  subst hv
  have hle := hl.le
  obtain ⟨W, hW⟩ : ∃ W, w.alloc (.cells #[.slice a l.length c] 52) = W := ⟨_, rfl⟩
  have ho : RImg.O W w.heap.size (.slice a l.length c) := by rw [← hW]; exact ⟨heap_alloc_new w _, rfl⟩
  have hb : Below w.heap.size w W := by rw [← hW]; exact (Below.refl _ w).alloc (Nat.le_refl _) _
  have hE := fun W' h => REncImg_any (.slice a l.length c) l W' h
  obtain ⟨E, hEE⟩ : ∃ E, encGE l = E := ⟨_, rfl⟩
  have HL := Lib.hid (hl.of_new hb)
  have HO := Lib.hid ho
  have HW := Lib.hid hW
  have HB := Lib.hid hb
  have HE := Lib.hid hE
  have HEE := Lib.hid hEE
  have HKW := Lib.hid (hK.of_new hb)
  have HS := Lib.hid (fun v W' h => RSum_any v ((encG l).getD []) W' h (encG_len l))
  clear hl ho hW hb hE hEE hK
  go_enter Tryd.func31, Tryd.ntmps31
  go_upto_region 1 with (first
    | ((with_reducible refine wpList_plain (o := ⟨some 2, Op.alloc _, _, _, _, _⟩) rfl fun K hK => ?_); rw [HW.out]; (refine wp_alloc_dig rfl fun w1 ho1 hb1 hs1 => hK _ _ ?_); have HO1 := Lib.hid ho1; have HB1 := Lib.hid (below_next HB.out hb1); have HI1 := Lib.hid (HO.out.of_new hb1); have HL1 := Lib.hid (HL.out.of_new hb1); have HK1 := Lib.hid (HKW.out.of_new hb1); have hs1' : w.heap.size < W.heap.size := HO.out.lt; clear ho1 hb1 hs1))
  go_upto_region 2 with (first
    | ((with_reducible refine wpList_plain (o := ⟨some 7, Op.load _ _, _, _, _, _⟩) rfl fun K hK => ?_); (refine HI1.out.at_.wp rfl rfl (hK _ _ ?_)))
    | (go_at_call 29; refine (HE.out _ HL1.out).mono ?_; rintro e w2 ⟨v2, rfl, hbv, hb2⟩; have HV := Lib.hid hbv; have HO2 := Lib.hid (HO1.out.of_new hb2); have HB2 := Lib.hid (below_next HB1.out hb2); have HK2 := Lib.hid (HK1.out.of_new hb2); clear hbv hb2))
  rw [HEE.out]
  by_cases h0 : E = 0
  · have HH := Lib.hid h0
    subst h0
    go_wp2_with (first
      | (go_at_call 40; refine (HS.out _ _ HV.out).mono ?_; rintro e w3 ⟨rfl, hb3⟩; have HO3 := Lib.hid (HO2.out.of_new hb3); have HB3 := Lib.hid (below_next HB2.out hb3); clear hb3)
      | ((with_reducible refine wpList_plain (o := ⟨none, Op.store _ (.tmp 2) (.tmp 16), _, _, _, _⟩) rfl fun K hK => ?_); (refine wp_store_digO (.tmp 2) (.tmp 16) W.heap.size (sumL ((encG l).getD [])) dig0 rfl rfl rfl (sumL_len _) HO3.out fun w4 ho4 hg4 hs4 => hK _ _ ?_); have HO4 := Lib.hid ho4; have HG4 := Lib.hid hg4; clear ho4 hg4 hs4))
    refine bodyPost_ret (results_dig_tmp rfl _ rfl rfl HO4.out) rfl ?_
    exact name_ok HEE.out rfl (HB3.out.grown HG4.out (by have := HB3.out.size; omega) (fun k e => by cases e; omega))
  · have t1 : (E == 0) = false := beq_eq_false_iff_ne.2 h0
    have t2 : (E != 0) = true := bne_iff_ne.2 h0
    have H0 := Lib.hid h0
    clear h0
    go_wp2_with (first
      | ((with_reducible refine wpList_plain (o := ⟨some 13, Op.build _ _, _, _, _, _⟩) rfl fun K hK => ?_); (refine wp_val (v := .agg (dig0.map B8).toArray) (by unfold execOp; simp only [List.map_toArray, List.map_nil, build_dig0, Sem.run_bind, Result.andThen_ok, Sem.run_pure]) (hK _ _ ?_)))
      | ((with_reducible refine wpList_plain (o := ⟨none, Op.store _ (.tmp 2) (.tmp 13), _, _, _, _⟩) rfl fun K hK => ?_); (refine wp_store_digO (.tmp 2) (.tmp 13) W.heap.size dig0 dig0 rfl rfl rfl rfl HO2.out fun w4 ho4 hg4 hs4 => hK _ _ ?_); have HO4 := Lib.hid ho4; have HG4 := Lib.hid hg4; clear ho4 hg4 hs4))
    refine bodyPost_ret (results_dig_tmp rfl _ rfl rfl HO4.out) rfl ?_
    exact name_bad HEE.out H0.out (HB2.out.grown HG4.out (by have := HB2.out.size; omega) (fun k e => by cases e; omega))

end Go.Proofs.YtnomekfemadpeaaDoor
