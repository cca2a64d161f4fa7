/- The walks of the document's answer's above and Root. Conditions: no more than 2^20 hashes. -/
import Derived.Test.YtnomekfemadpeaaDoorMrkRoot
import Derived.Test.YtnomekfemadpeaaDoorAt
namespace Go.Proofs.YtnomekfemadpeaaDoor
open Go.RowKit
set_option linter.unusedVariables false
set_option linter.unusedSimpArgs false

set_option maxRecDepth 100000 in
set_option maxHeartbeats 1600000 in
theorem Above_any (v : Value) (l : List (List UInt8)) (w : World) (hl : Digs w v l) (hlen : l.length ≤ 1048576) :
    Calls Tryd.prog 49 #[v] w fun e w' => ∃ v', e = .returned v' ∧ OwnD w' w.heap.size v' (aboveL l) ∧ Below w.heap.size w w' := by
  obtain ⟨va, vc, hv⟩ := hl.len
  subst hv
  go_enter Tryd.func49, Tryd.ntmps49
  go_wp2
  go_loopw [3, 4] (fun ov iv wr => ∃ (k : Nat), 2 * k ≤ l.length + 1 ∧ iv = .int .i64 ((2 * k : Nat) : Int) ∧ OwnD wr w.heap.size ov ((aboveL l).take k) ∧ Below w.heap.size w wr)
    (fun _ iv _ => l.length + 2 - (intOf iv).toNat)
  case atStart => exact ⟨0, by omega, rfl, OwnD.nil _ _, Below.refl _ _⟩
  case round =>
    obtain ⟨k, hk, rfl, ho, hb⟩ := hrel
    have hsz := hb.size
    have hlw := hl.of_new hb
    clear hl
    obtain ⟨oa, oc, ho'⟩ := ho.digs.len
    subst ho'
    have e1 : (2 * (k : Int)).toNat = 2 * k := by omega
    have e2 : (2 * (k : Int) + 1).toNat = 2 * k + 1 := by omega
    by_cases hlt : 2 * k < l.length
    · obtain ⟨b, off, c, hv⟩ := hlw.shape (by omega)
      obtain ⟨rfl, rfl⟩ : va = some ⟨b, off, none⟩ ∧ vc = c := by cases hv; exact ⟨rfl, rfl⟩
      clear hv
      have b0 : (0 : Int) ≤ 2 * (k : Int) := by omega
      have b1 : (2 * (k : Int)) < (l.length : Int) := by omega
      have h1 := hlw.digAt (i := 2 * k) (by omega)
      have hout : ∀ e, (aboveL l).getD k [] = e → (aboveL l).take k ++ [e] = (aboveL l).take (k + 1) := fun e he => by
        rw [← he, List.take_succ_eq_append_getElem (by rw [aboveL_len]; omega)]
        simp [List.getD, List.getElem?_eq_getElem (show k < (aboveL l).length by rw [aboveL_len]; omega)]
      have hat := aboveL_at l k
      have hlast := aboveL_last l
      have hol : ((aboveL l).take k).length ≤ k := List.length_take_le _ _
      by_cases hlt2 : 2 * k + 1 < l.length
      · have h2 := hlw.digAt (i := 2 * k + 1) (by omega)
        have hstep := Lib.hid (hout _ (hat hlt2))
        have b2 : (2 * (k : Int) + 1) < (l.length : Int) := by omega
        have b3 : (0 : Int) ≤ 2 * (k : Int) + 1 := by omega
        have s1 : IntKind.i64.wrap (2 * (k : Int) + 1) = 2 * (k : Int) + 1 := IntWalk.i64_in _ (by omega)
        clear hout hat hlast
        generalize l.getD (2 * k) [] = d1 at *
        generalize l.getD (2 * k + 1) [] = d2 at *
        generalize (aboveL l).take k = out at *
        go_upto_region 6 with (fail)
        refine wp_region_class_move (C := Grew wr) 11 (.tmp 3) rfl rfl (by kernel_rfl) (by kernel_rfl) (by kernel_rfl) (Grew.start _) (fun _ _ _ h => h) ?_
        simp only [List.take_succ_cons, List.take_zero, List.drop_succ_cons, List.drop_zero]
        go_simp
        repeat (first
          | (go_big_quiet_want; (with_reducible apply quiet_load_at (ty := 25) (x := .tmp _)); rfl; rfl; assumption; go_simp; go_big_quiet_on)
          | (go_big_quiet_want; apply quiet_val; (intro w' hw'; go_simp; first | done | rfl); go_simp; go_big_quiet_on)
          | (go_big_quiet_want; apply quiet_call (f := 50); (intro w' hw'; go_simp; first | done | rfl); (intro w' hw'; exact Grew.call hw' (RNode_any _ _ _ h1.1 h2.1)); go_simp; go_big_quiet_on)
          | (go_big_quiet_skip))
        refine wpQuiet_nil ?_
        intro w5 hw5
        have ho5 := ho.of_new hw5
        have hb5 : Below w.heap.size w w5 := below_next' hb hw5
        have hsz5 := hb5.size
        refine wpList_buildDigs 1 _ [nodeL d1 d2] rfl rfl rfl (by simp) (by simp) (fun x hx => by simp at hx; rw [hx]; exact nodeL_len _ _) (by simp only [List.map_toArray, List.map_cons, List.map_nil]; rfl) ?_
        intro w7 ho7 hb7 hs7
        have hoB := ho5.of_new hb7
        refine wpList_appD rfl (.tmp 16) (.tmp 27) 31 rfl w.heap.size Tryd.underlying31 _ _ rfl hoB _ [nodeL d1 d2] rfl ho7.digs (by simp; omega) (by omega) ?_
        intro v6 w6 ho6 hg6 _
        have hb6 : Below w.heap.size w w6 := (below_next' hb5 hb7).grown hg6 (by omega) (fun j hj => (hoB.lt j hj).1)
        rw [hstep.out] at ho6
        clear hg6 ho7 hoB
        go_wp2
        go_roundw
        case rel => exact ⟨k + 1, by omega, by go_num, ho6, hb6⟩
        case measure => simp [intOf]; omega
      · have hodd : l.length % 2 = 1 := by omega
        have hk2 : l.length / 2 = k := by omega
        have hk3 : l.length - 1 = 2 * k := by omega
        rw [hk2, hk3] at hlast
        have hstep := Lib.hid (hout _ (hlast hodd))
        have b2 : ¬ (2 * (k : Int) + 1) < (l.length : Int) := by omega
        clear hout hat hlast hk2 hk3
        generalize l.getD (2 * k) [] = d1 at *
        generalize (aboveL l).take k = out at *
        go_wp2_with (first
          | ((with_reducible apply wpList_load_at (ty := 25) (x := .tmp _)); rfl; rfl; rfl; assumption)
          | ((with_reducible refine wpList_buildDigs (op := ⟨_, Op.buildSlice 31 1 _, _, _, _, _⟩) 1 #[(0, .tmp 33)] [d1] ?_ ?_ ?_ ?_ ?_ ?_ ?_ ?_); rfl; rfl; rfl; simp; simp; (intro x hx; simp at hx; rw [hx]; exact h1.1); (simp only [List.map_toArray, List.map_cons, List.map_nil]; rfl); intro w7 ho7 hb7 hs7; refine wpList_appD rfl (.tmp 29) (.tmp 34) 31 rfl w.heap.size Tryd.underlying31 _ _ rfl (ho.of_new hb7) _ [d1] rfl ho7.digs (by simp; omega) (by omega) ?_; intro v6 w6 ho6 hg6 _; have hb6 : Below w.heap.size w w6 := (below_next' hb hb7).grown hg6 (by omega) (fun j hj => ((ho.of_new hb7).lt j hj).1); clear hg6 ho7 hb7))
        rw [hstep.out] at ho6
        go_roundw
        case rel => exact ⟨k + 1, by omega, by go_num, ho6, hb6⟩
        case measure => simp [intOf]; omega
    · have b1 : ¬ (2 * (k : Int)) < (l.length : Int) := by omega
      have hend : (aboveL l).take k = aboveL l := List.take_of_length_le (by rw [aboveL_len]; omega)
      generalize ((aboveL l).take k).length = q at *
      rw [hend] at ho
      go_wp2
      go_ret
      exact ⟨_, rfl, ho, hb⟩

theorem rootL_step {l : List (List UInt8)} (h : 1 < l.length) : rootL l = rootL (aboveL l) := by
  unfold rootL
  have h2 : ¬ (aboveL l).length = 0 := by rw [aboveL_len]; omega
  have hne : rowsL (aboveL l) ≠ [] := by
    by_cases h3 : 1 < (aboveL l).length
    · rw [rowsL_step h3]; simp
    · rw [rowsL_end (by omega)]; simp
  rw [if_neg (by omega), if_neg h2, rowsL_step h]
  obtain ⟨r, rs, hr⟩ : ∃ r rs, rowsL (aboveL l) = r :: rs := by
    cases hq : rowsL (aboveL l) with
    | nil => exact absurd hq hne
    | cons r rs => exact ⟨r, rs, rfl⟩
  rw [hr]; simp
theorem rootL_one {l : List (List UInt8)} (h : l.length = 1) : rootL l = l.getD 0 [] := by
  unfold rootL
  rw [if_neg (by omega), rowsL_end (by omega)]
  rfl
theorem rootL_none {l : List (List UInt8)} (h : l.length = 0) : rootL l = noneL := by unfold rootL; rw [if_pos h]

set_option maxRecDepth 100000 in
set_option maxHeartbeats 1600000 in
theorem RRoot_any (v : Value) (l : List (List UInt8)) (w : World) (hl : Digs w v l) (hlen : l.length ≤ 1048576) :
    Calls Tryd.prog 41 #[v] w fun e w' => e = .returned (.agg ((rootL l).map B8).toArray) ∧ Below w.heap.size w w' := by
  obtain ⟨va, vc, hv⟩ := hl.len
  subst hv
  by_cases h0 : l.length = 0
  · have hr := Lib.hid (rootL_none h0)
    rw [h0]
    clear hl
    go_enter Tryd.func41, Tryd.ntmps41
    go_wp2_with fail
    generalize hW1 : (w.alloc _) = W1
    obtain ⟨hR, hb1, hz⟩ : Octs W1 w.heap.size 25 (List.replicate 32 0) ∧ Below w.heap.size w W1 ∧ w.heap.size + 1 = W1.heap.size := by
      subst hW1
      exact ⟨heap_alloc_new w _, (Below.refl _ w).alloc (Nat.le_refl _) _, by simp⟩
    clear hW1
    refine (RTagged_any 2 _ [] W1 (parts_nil _) (by simp) (by simp)).mono ?_
    rintro e w2 ⟨rfl, hb2⟩
    have hR2 := Lib.hid (hR.of_block (hb2.block _ (by omega)))
    have hbF := Lib.hid (below_next hb1 (hb2.mono (by omega)))
    clear hb2 hb1 hR
    go_wp2_with ((with_reducible refine wpList_store_octs (op := ⟨none, Op.store 25 (.tmp 2) (.tmp 7), _, _, _, _⟩) 25 (.tmp 2) (.tmp 7) (w.heap.size) 25 (List.replicate 32 (0 : UInt8)) (sumL (partsL 2 [])) ?g ?ho ?hx ?hy ?hh ?hi ?hs ?_); (case g => rfl); (case ho => rfl); (case hx => rfl); (case hy => rfl); (case hh => exact hR2.out); (case hi => rw [show sumL (partsL 2 []) = noneL from rfl, noneL_len]; kernel_rfl); (case hs => rw [show sumL (partsL 2 []) = noneL from rfl, noneL_len]; rfl))
    refine bodyPost_ret (results_cell rfl _ rfl (run_loadVar_row _ _ 25 _ (noneL.map B8).toArray (0, 0) _ (setRow_heap _ _ _ _ _ _ hR2.out) Tryd.underlying25 rfl (by rw [info_dig]; simp [noneL_len]))) rfl ⟨by rw [hr.out], ?_⟩
    exact hbF.out.trans (below_setRow' _ _ _ (Nat.le_refl _))
  · have t0 : ((l.length : Int) == 0) = false := by simpa using (by omega : ¬ ((l.length : Int) = 0))
    go_enter Tryd.func41, Tryd.ntmps41
    go_wp2
    generalize hW1 : (w.alloc _) = W1
    obtain ⟨hR, hb1, hz⟩ : Octs W1 w.heap.size 25 (List.replicate 32 0) ∧ Below w.heap.size w W1 ∧ w.heap.size + 1 = W1.heap.size := by
      subst hW1
      exact ⟨heap_alloc_new w _, (Below.refl _ w).alloc (Nat.le_refl _) _, by simp⟩
    clear hW1
    have hl1 := hl.of_new hb1
    clear hl
    go_loopw [3] (fun lv wr => ∃ (cur : List (List UInt8)), cur.length ≤ 1048576 ∧ 0 < cur.length ∧ Digs wr lv cur ∧ rootL l = rootL cur ∧ Octs wr w.heap.size 25 (List.replicate 32 0) ∧ Below w.heap.size w wr ∧ w.heap.size < wr.heap.size)
      (fun lv _ => lenV lv)
    case atStart => exact ⟨l, hlen, by omega, hl1, rfl, hR, hb1, by omega⟩
    case round =>
      clear hR hb1 hl1 hz hlen h0 t0
      obtain ⟨cur, hlen, hpos, hl1, hroot, hR, hb1, hz⟩ := hrel
      have HR := Lib.hid hroot
      clear hroot
      obtain ⟨ca, cc, hv⟩ := hl1.len
      subst hv
      by_cases hlt : 1 < cur.length
      · have t1 : (1 : Int) < (cur.length : Int) := by omega
        go_wp2_with fail
        refine (Above_any _ cur _ hl1 hlen).mono ?_
        rintro e w2 ⟨v2, rfl, ho2, hb2⟩
        have hR2 := hR.of_block (hb2.block _ hz)
        have hl2 := ho2.digs
        obtain ⟨ca2, cc2, hv⟩ := hl2.len
        subst hv
        have hal := Lib.hid (aboveL_len cur)
        have hstep := Lib.hid (rootL_step hlt)
        generalize aboveL cur = nxt at *
        clear ho2
        go_wp2
        go_roundw
        case rel => exact ⟨nxt, by have := hal.out; omega, by have := hal.out; omega, hl2, HR.out.trans hstep.out, hR2, below_next' hb1 hb2, by have := hb2.size; omega⟩
        case measure => have := hal.out; show nxt.length < cur.length; omega
      · have t1 : ¬ (1 : Int) < (cur.length : Int) := by omega
        obtain ⟨b, off, c, hv⟩ := hl1.shape hpos
        obtain ⟨rfl, rfl⟩ : ca = some ⟨b, off, none⟩ ∧ cc = c := by cases hv; exact ⟨rfl, rfl⟩
        have t2 : (0 : Int) < (cur.length : Int) := by omega
        have h1 := hl1.digAt (i := 0) hpos
        have hone := HR.out.trans (rootL_one (l := cur) (by omega))
        rw [Nat.zero_mul, Nat.add_zero] at h1
        have HO := Lib.hid hone
        clear hone hv
        generalize cur.getD 0 [] = d at *
        go_wp2_with (first
          | ((with_reducible apply wpList_load_at (ty := 25) (x := .tmp _)); rfl; rfl; rfl; assumption)
          | ((with_reducible refine wpList_store_octs (op := ⟨none, Op.store 25 (.tmp 2) (.tmp 16), _, _, _, _⟩) 25 (.tmp 2) (.tmp 16) (w.heap.size) 25 (List.replicate 32 (0 : UInt8)) d ?_ ?_ ?_ ?_ ?_ ?_ ?_ ?_); rfl; rfl; rfl; rfl; exact hR; (rw [h1.1]; kernel_rfl); (rw [h1.1]; rfl)))
        refine bodyPost_ret (results_cell rfl _ rfl (run_loadVar_row _ _ 25 _ (d.map B8).toArray (0, 0) _ (setRow_heap _ _ _ _ _ _ hR) Tryd.underlying25 rfl (by rw [info_dig]; simp [h1.1]))) rfl ⟨by rw [HO.out], ?_⟩
        exact hb1.trans (below_setRow' _ _ _ (Nat.le_refl _))

end Go.Proofs.YtnomekfemadpeaaDoor
