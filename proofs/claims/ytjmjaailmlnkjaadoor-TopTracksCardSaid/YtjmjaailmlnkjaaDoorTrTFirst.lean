/- The walk of which blob goes first. Condition: the table as it lies, with some blob. -/
import Derived.Test.YtjmjaailmlnkjaaDoorTrMinD
namespace Go.Proofs.YtjmjaailmlnkjaaDoor
open Go.RowKit Go.Shelf
attribute [local go_sem] Oper.semAt_some
set_option linter.unusedVariables false
set_option linter.unusedSimpArgs false
set_option maxRecDepth 100000

/-- All of a map's hashes as a slice. -/
theorem collectKeys (m : Value) (E : EntL) (w W : World) (hm : MapV KDig w m (E.map outE)) (hd : ∀ x ∈ E, x.1.length = 32) (hl : E.length ≤ 1000000) (hW : W = w.alloc (.cells #[m] 37)) :
    Calls Tryd.prog 24 #[.func (.func 38) #[] #[.pointer (some ⟨w.heap.size, 0, none⟩)]] W fun e w' => ∃ v qs, e = .returned v ∧ qs.Perm ((tabOf E).map (·.1)) ∧ RDig.Own w' W.heap.size v qs ∧ Below w.heap.size w w' := by
  have hs : W.heap.size = w.heap.size + 1 := by rw [hW]; simp
  have hb : Below w.heap.size w W := by rw [hW]; exact (Below.refl _ w).alloc (Nat.le_refl _) _
  have ho : One W w.heap.size m 37 := by rw [hW]; exact heap_alloc_new w _
  have hL : ∀ x ∈ E.map outE, x.1.length = 32 := fun x hx => by obtain ⟨q, hq, rfl⟩ := List.mem_map.1 hx; exact hd q hq
  refine (CollectK_any _ _ (E.map outE) w.heap.size (fun j => j = w.heap.size) W hL (by simpa using by omega) (by omega) (fun k hk => by subst hk; omega)
    (enters_of Tryd.func38 (by kernel_rfl) rfl)
    (fun W1 hb1 hs1 => keys_seq 4 (by omega) w.heap.size w.heap.size m (E.map outE) W1 w rfl (hb.trans (hb1.mono (by omega))) (Nat.le_refl _) (ho.of_new hb1) hm hL)).mono ?_
  rintro e w' ⟨v, qs, rfl, hp, hown, hbw⟩
  refine ⟨v, qs, rfl, ?_, hown, hb.trans hbw⟩
  refine hp.trans (List.Perm.of_eq ?_)
  unfold tabOf
  rw [List.map_map, List.map_map]
  rfl

set_option maxHeartbeats 1600000 in
theorem TFirst_any (t mb : Nat) (most each : Int) (E : EntL) (w : World) (hT : TabP w t most each mb E) (hr : Rising kD (tabOf E)) (hd : ∀ x ∈ E, x.1.length = 32) (h0 : E ≠ []) (hl : E.length ≤ 1000000) :
    Calls Tryd.prog 12 #[.pointer (some ⟨t, 0, none⟩)] w fun e w' => e = .returned (RDig.V (firstT (tabOf E)).1) ∧ (firstT (tabOf E)).1.length = 32 ∧ Below w.heap.size w w' := by
  have hf32 : (firstT (tabOf E)).1.length = 32 := by
    have hm := firstT_mem (T := tabOf E) (fun e => h0 (List.map_eq_nil_iff.1 e))
    obtain ⟨x, hx, he⟩ := List.mem_map.1 hm
    rw [← he]; exact hd x hx
  have HF32 := Lib.hid hf32
  have HT := Lib.hid hT
  have HR := Lib.hid hr
  have HD := Lib.hid hd
  have H0 := Lib.hid h0
  have HL := Lib.hid hl
  clear hT hr hd h0 hf32 hl
  go_enter Tryd.func12, Tryd.ntmps12
  go_upto_region 1 with ((with_reducible refine wpList_plain (o := ⟨some 2, Op.alloc _, _, _, _, _⟩) rfl fun K hK => ?_); (refine RDig.wp_alloc rfl fun w2 ho2 hb2 hs2 => hK _ _ ?_); have HO2 := Lib.hid (show RDig.O w2 (w.heap.size + 1) _ from by rw [World.size_alloc] at ho2; exact ho2); have HB2 := Lib.hid hb2; have HS2 := Lib.hid hs2; clear ho2 hb2 hs2)
  have hb1 : Below w.heap.size w (w.alloc (.cells #[.pointer (some ⟨t, 0, none⟩)] 24)) := (Below.refl _ w).alloc (Nat.le_refl _) _
  have hbx : One (w.alloc (.cells #[.pointer (some ⟨t, 0, none⟩)] 24)) w.heap.size (.pointer (some ⟨t, 0, none⟩)) 24 := heap_alloc_new w _
  have hTB : TabB w2 w.heap.size t mb most each E := ⟨hbx.of_new HB2.out, (HT.out.of_new hb1).of_new HB2.out⟩
  have hB2 : Below w.heap.size w w2 := below_next hb1 HB2.out
  have hcb := hTB.box.cell
  have hc2 := hTB.tab.cell2
  obtain ⟨W3, hW3⟩ : ∃ W3, w2.alloc (.cells #[.map (some mb)] 37) = W3 := ⟨_, rfl⟩
  have hV := Keys_any (.map (some mb)) w2 (.inl ⟨_, rfl⟩)
  rw [hW3] at hV
  have hC := collectKeys (.map (some mb)) E w2 W3 (.inl ⟨_, rfl, hTB.tab.map⟩) HD.out HL.out hW3.symm
  have HTB := Lib.hid hTB
  have HB := Lib.hid hB2
  have HV := Lib.hid hV
  have HC := Lib.hid hC
  have HW3 := Lib.hid hW3
  clear hb1 hbx hTB hB2 hV hC hW3
  go_upto_region 2 with (first
    | (go_at_call 25; refine HV.out.mono ?_; rintro e w4 ⟨rfl, rfl⟩)
    | (go_at_call 24; refine HC.out.mono ?_; rintro e w5 ⟨v5, qs, rfl, hp5, ho5, hb5⟩; have HP5 := Lib.hid hp5; have HO5 := Lib.hid ho5; have HB5 := Lib.hid hb5; clear hp5 ho5 hb5))
  cases qs with
  | nil => exact absurd (HP5.out.length_eq) (by simp [tabOf]; exact fun e => H0.out (List.length_eq_zero_iff.1 e.symm))
  | cons x l =>
    have hfp := firstT_dig HR.out (fun y hy => by obtain ⟨z, hz, rfl⟩ := List.mem_map.1 hy; exact HD.out z hz) HP5.out
    have hM := MinD_any w.heap.size t mb most each E v5 x l w5 (HTB.out.of_new HB5.out) HD.out HO5.out.row
    rw [← hfp] at hM
    obtain ⟨a5, c5, hv⟩ := HO5.out.row.len
    subst hv
    have HM := Lib.hid hM
    have HR5 := Lib.hid (HO2.out.of_new HB5.out)
    clear hM hfp
    go_wp2_with (first
      | (go_at_call 26; refine HM.out.mono ?_; rintro e w6 ⟨rfl, hb6⟩; have HR6 := Lib.hid (HR5.out.of_new hb6); have HB6 := Lib.hid (below_next HB5.out hb6); clear hb6)
      | ((with_reducible refine wpList_plain (o := ⟨none, Op.store _ (.tmp 2) (.tmp 12), _, _, _, _⟩) rfl fun K hK => ?_); (refine HR6.out.store (.tmp 2) (.tmp 12) rfl rfl rfl HF32.out fun w7 ho7 hg7 hs7 => hK _ _ ?_); have HO7 := Lib.hid ho7; have HG7 := Lib.hid hg7; clear ho7 hg7 hs7))
    refine bodyPost_ret (RecT.results1 rfl _ rfl HO7.out) rfl ?_
    exact ⟨rfl, HF32.out, (below_next HB.out HB6.out).grown HG7.out (by have := HB.out.size; have := HB6.out.size; omega) (fun k e => by cases e; simp)⟩

end Go.Proofs.YtjmjaailmlnkjaaDoor
