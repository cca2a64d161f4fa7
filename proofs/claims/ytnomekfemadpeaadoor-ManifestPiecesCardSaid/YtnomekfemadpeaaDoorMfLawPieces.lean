/- The walk of the law ManifestPieces: it answers true. Condition: the table of constants as the program lays it. -/
import Derived.Test.YtnomekfemadpeaaDoorGc
namespace Go.Proofs.YtnomekfemadpeaaDoor
open Go.RowKit
set_option linter.unusedVariables false
set_option linter.unusedSimpArgs false
set_option maxRecDepth 100000

set_option maxHeartbeats 6400000 in
theorem ManifestPieces_walk (x : BlobL) (i : Int) (v : Value) (ps : List (List UInt8)) (w : World) (hx : x.ok) (hi1 : -9223372036854775808 ≤ i) (hi2 : i ≤ 9223372036854775807) (hp : PartsV w v ps) (hKc : Consts w) :
    Calls Tryd.prog 6 #[BlobV x, .int .i64 i, v] w fun e w' => e = .returned (.bool true) ∧ Below w.heap.size w w' := by
  obtain ⟨va, vc, hv⟩ := hp.len
  subst hv
  have hle := hp.le
  have HP := Lib.hid hp
  clear hp
  rw [show BlobV x = .agg x.cells.toArray from rfl]
  go_enter Tryd.func6, Tryd.ntmps6
  go_upto_region 1 with (fail)
  obtain ⟨W, hW⟩ : ∃ W, w.alloc (.cells x.cells.toArray 27) = W := ⟨_, rfl⟩
  have hbo := blob_alloc w hx
  have hb0 : Below w.heap.size w (w.alloc (.cells x.cells.toArray 27)) := (Below.refl _ w).alloc (Nat.le_refl _) _
  rw [hW] at hbo hb0 ⊢
  have HBO0 := Lib.hid hbo
  clear hW hbo
  go_wp2_with fail
  refine (awake_any _ (hKc.of_new hb0)).mono ?_
  rintro e w1 ⟨rfl, hb1⟩
  have hbA := below_next hb0 hb1
  have HBO := Lib.hid (HBO0.out.of_new hb1)
  clear HBO0 hb0 hb1
  by_cases h0 : ps.length = 0
  · have t0 : ((ps.length : Int) == 0) = true := beq_iff_eq.2 (by omega)
    go_wp2
    go_ret
    exact ⟨rfl, hbA⟩
  have t0 : ((ps.length : Int) == 0) = false := beq_eq_false_iff_ne.2 (by omega)
  by_cases h50 : 50 < ps.length
  · have t1 : (50 : Int) < (ps.length : Int) := by omega
    go_wp2
    go_ret
    exact ⟨rfl, hbA⟩
  have t1 : ¬ (50 : Int) < (ps.length : Int) := by omega
  obtain ⟨pb, poff, pc, hv, hpl, hpc⟩ := HP.out.at_ (by omega)
  obtain ⟨rfl, rfl⟩ : va = some ⟨pb, poff, none⟩ ∧ vc = pc := by cases hv; exact ⟨rfl, rfl⟩
  obtain ⟨a0, c0, hx0, hy0⟩ := hpc 0 (by omega)
  have t2 : (0 : Int) < (ps.length : Int) := by omega
  have z0 := (hbA.cell (p := ⟨pb, poff + 0, none⟩) hpl).trans hx0
  rw [Nat.add_zero] at z0
  have HPC := Lib.hid hpc
  clear hpc hv hx0
  obtain ⟨y, hy⟩ : ∃ y, ps.getD 0 [] = y := ⟨_, rfl⟩
  rw [hy] at z0 hy0
  have HY := Lib.hid hy
  clear hy
  by_cases h30 : 30000 < y.length
  · have t3 : (30000 : Int) < (y.length : Int) := by omega
    go_wp2
    go_ret
    exact ⟨rfl, hbA⟩
  have t3 : ¬ (30000 : Int) < (y.length : Int) := by omega
  have HY0 := Lib.hid hy0
  clear hy0
  go_wp2
  go_loopw [8, 9, 10, 11] (fun ov kv _ _ W => PathI w1 ps ov kv W) (fun _ kv _ _ _ => ps.length - (intOf kv).toNat)
  case atStart => exact ⟨0, rfl, by omega, OwnD.nil _ _, Below.refl _ _⟩
  case round =>
    obtain ⟨k, rfl, hk, ho, hb⟩ := hrel
    generalize wr = wo at *
    have hsz := hb.size
    obtain ⟨oa, oc, hv⟩ := ho.digs.len
    subst hv
    have hol := proofOf_len hk
    have HO := Lib.hid ho
    have HOL := Lib.hid hol
    clear ho hol
    obtain ⟨P, hP⟩ : ∃ P, proofOf ps k = P := ⟨_, rfl⟩
    rw [hP] at HO HOL ⊢
    by_cases hlt : k + 1 < ps.length
    · have hstep := proofOf_step hlt
      rw [hP] at hstep
      obtain ⟨ua, uc, hu1, hub⟩ := HPC.out (k + 1) hlt
      have hu2 := (hb.cell (p := ⟨pb, poff + (k + 1), none⟩) (by have := hbA.size; show pb < w1.heap.size; omega)).trans ((hbA.cell (p := ⟨pb, poff + (k + 1), none⟩) hpl).trans hu1)
      obtain ⟨xk, hxk⟩ : ∃ xk, ps.getD (k + 1) [] = xk := ⟨_, rfl⟩
      rw [hxk] at hstep hub hu2
      have HST := Lib.hid hstep
      have HUB := Lib.hid hub
      have hk1 : ((k + 1 : Nat) : Int) < (ps.length : Int) := by omega
      clear hstep hub hu1 hxk
      obtain ⟨K, hK⟩ : ∃ K, k + 1 = K := ⟨_, rfl⟩
      rw [hK] at hu2 hk1 ⊢
      go_wp2
      generalize hW3 : wo.alloc _ = W3
      obtain ⟨hO3, hb3⟩ : Octs W3 wo.heap.size 25 (List.replicate 32 0) ∧ Below wo.heap.size wo W3 := by
        subst hW3
        exact ⟨heap_alloc_new _ _, (Below.refl _ wo).alloc (Nat.le_refl _) _⟩
      clear hW3
      go_loopw [11] (PadI wo wo.heap.size xk) (fun jv _ => 32 - (intOf jv).toNat)
      case atStart => exact ⟨0, rfl, by omega, by omega, by simpa using hO3, hb3⟩
      case round =>
        obtain ⟨j, rfl, hj1, hj2, hoc, hbj⟩ := hrel
        have hszj := hbj.size
        have hglt := (Array.getElem?_eq_some_iff.1 hoc).1
        have hcu := (hbj.cell (p := ⟨pb, poff + K, none⟩) (by have := hbA.size; show pb < wo.heap.size; omega)).trans hu2
        have HOC := Lib.hid hoc
        clear hoc
        by_cases hc : j < 32 ∧ j < xk.length
        · obtain ⟨hc1, hc2⟩ := hc
          obtain ⟨ub, uoff, uc', hv, hubl, hcell⟩ := HUB.out.cell (by omega)
          obtain ⟨rfl, rfl⟩ : ua = some ⟨ub, uoff, none⟩ ∧ uc = uc' := by cases hv; exact ⟨rfl, rfl⟩
          have hcy := (hbj.cell (p := ⟨ub, uoff + j, none⟩) (by have := hbA.size; show ub < wo.heap.size; omega)).trans ((hb.cell (p := ⟨ub, uoff + j, none⟩) (by have := hbA.size; show ub < w1.heap.size; omega)).trans ((hbA.cell (p := ⟨ub, uoff + j, none⟩) hubl).trans (hcell j hc2)))
          have hset := HOC.out.set j (xk.getD j 0)
          rw [pad_step hc1 hc2] at hset
          have hset' := hset
          unfold B8 at hcy hset
          generalize xk.getD j 0 = yb at *
          have hfr := HOC.out.free j
          obtain ⟨old, hold⟩ : ∃ old, wr.cell? ⟨wo.heap.size, j, none⟩ = some old := ⟨_, HOC.out.cell (by simp; omega)⟩
          have i1 : (j : Int) < 32 := by omega
          have i2 : (j : Int) < (xk.length : Int) := by omega
          have HSET := Lib.hid hset
          clear hset hset' hcell hv
          go_wp2
          refine ⟨⟨j + 1, by go_num, by omega, by omega, HSET.out, hbj.setCell (p := ⟨wo.heap.size, j, none⟩) (Nat.le_refl _) _⟩, ?_⟩
          simp only [intOf]; omega
        · have hend : j = 32 ∨ j = xk.length := by omega
          rw [pad_end hj1 hj2 hend] at HOC
          obtain ⟨d, hd⟩ : ∃ d, pad32 xk = d := ⟨_, rfl⟩
          have hd32 : d.length = 32 := by rw [← hd]; exact pad32_len xk
          rw [hd] at HOC HST
          have hat := HOC.out.digAt hd32
          have HAT := Lib.hid hat
          have hdd : Dig32 [d] := fun q hq => by simp at hq; rw [hq]; exact hd32
          have HO1 := Lib.hid (HO.out.of_new hbj)
          have HBJ := Lib.hid (below_next hb hbj)
          have hw1s : w1.heap.size ≤ wr.heap.size := by omega
          have hPl : P.length ≤ 50 := by have := HOL.out; omega
          have HK2 := Lib.hid (show (K : Int) + 1 = ((k + 1 + 1 : Nat) : Int) by omega)
          clear hat hd hO3 hb3 hbj hb HO
          by_cases hj32 : j < 32
          all_goals
            first
              | (have i1 : (j : Int) < 32 := by omega)
              | (have i1 : ¬ (j : Int) < 32 := by omega)
            have i2 : (j : Int) < 32 → ¬ (j : Int) < (xk.length : Int) := by omega
            have i3 := i2
            clear i3 hend hc hj1 hj2
            first
              | (replace i2 := i2 i1)
              | clear i2
            go_wp2_with (first
              | ((with_reducible refine wpList_plain (o := ⟨some 62, Op.load 25 _, _, _, _, _⟩) rfl fun K' hK' => ?_); (refine wp_load_at (ty := 25) (x := .tmp 10) rfl rfl HAT.out (hK' _ _ ?_)))
              | ((with_reducible refine wpList_plain (o := ⟨some 63, _, _, _, _, _⟩) rfl fun K' hK' => ?_); refine wp_buildDigs 1 _ [d] rfl rfl (by simp) (by simp) hdd (by simp only [List.map_toArray, List.map_cons, List.map_nil]; rfl) ?_; intro w4 ho4 hb4 hs4; refine hK' _ _ ?_; have HO4 := Lib.hid ho4.digs; have HB4 := Lib.hid hb4; have HO5 := Lib.hid (HO1.out.of_new hb4); clear ho4 hb4 hK')
              | ((with_reducible refine wpList_plain (o := ⟨some 64, _, _, _, _, _⟩) rfl fun K' hK' => ?_); refine wp_appD (.tmp 61) (.tmp 63) rfl w1.heap.size _ P rfl HO5.out _ [d] rfl HO4.out (by simp; omega) (by have := HB4.out.size; omega) ?_; intro v6 w6 ho6 hg6 hu6; refine hK' _ _ ?_; obtain ⟨a6, c6, hv6⟩ := ho6.digs.len; subst hv6; clear hK'))
            go_wp2
            go_roundw
            case rel =>
              refine ⟨k + 1, by rw [← HK2.out], by omega, ?_, ?_⟩
              · rw [HST.out]
                rw [List.length_append] at ho6
                exact ho6
              · exact (below_next HBJ.out HB4.out).grown hg6 (by have := HB4.out.size; omega) (fun r e => (HO5.out.lt r e).1)
            case measure => simp [intOf]; omega
    · have hk1 : ¬ (((k + 1 : Nat) : Int) < (ps.length : Int)) := by omega
      obtain ⟨K, hK⟩ : ∃ K, k + 1 = K := ⟨_, rfl⟩
      rw [hK] at hk1 ⊢
      have hbB := below_next hbA hb
      have HBO2 := Lib.hid (HBO.out.of_new hb)
      have HD := Lib.hid HO.out.digs
      have z2 := (hb.cell (p := ⟨pb, poff, none⟩) (by have := hbA.size; show pb < w1.heap.size; omega)).trans z0
      have z3 : ∀ n, (wo.drewN n).cell? ⟨pb, poff, none⟩ = some (.slice a0 y.length c0) := fun n => z2
      have hPc := fun w' (h : Below wo.heap.size wo w') => Piece_any x i (.slice a0 y.length c0) y (.slice oa P.length oc) P w' hx hi1 hi2 (HY0.out.of_new (below_next hbB h)) (HD.out.of_new h) (hKc.of_new (below_next hbB h))
      have hRc := fun w' (h : Below wo.heap.size wo w') => RPiece_any x i (.slice a0 y.length c0) y (.slice oa P.length oc) P w' hx hi1 hi2 (HY0.out.of_new (below_next hbB h)) (HD.out.of_new h)
      generalize pieceB x i y P = R at *
      have HPc := Lib.hid hPc
      have HRc := Lib.hid hRc
      have hcz : ∀ w', Grew wo w' → w'.cell? ⟨pb, poff, none⟩ = some (.slice a0 y.length c0) := fun w' h => (Below.cell h (p := ⟨pb, poff, none⟩) (by have := hbB.size; show pb < wo.heap.size; omega)).trans z2
      have e5 : (R == R) = true := by simp
      clear hPc hRc z0 z3
      go_upto_region 14 with (fail)
      refine wp_region_grew (by kernel_rfl) (by kernel_rfl) ?_
      repeat (first
        | (go_big_quiet_want; (with_reducible apply quiet_load_blob (p := .tmp 3)); rfl; rfl; exact HBO2.out; go_simp; go_big_quiet_on)
        | (go_big_quiet_want; (with_reducible apply quiet_load_at (ty := 25) (x := .tmp _)); rfl; rfl; assumption; go_simp; go_big_quiet_on)
        | (go_big_quiet_want; apply quiet_val; (intro w' hw'; go_simp; first | done | rfl); go_simp; go_big_quiet_on)
        | (go_big_quiet_want; apply quiet_call (f := 24); (intro w' hw'; go_simp; first | done | rfl); (intro w' hw'; exact Grew.call hw' (HPc.out w' hw')); go_simp; go_big_quiet_on)
        | (go_big_quiet_want; apply quiet_call (f := 25); (intro w' hw'; go_simp; first | done | rfl); (intro w' hw'; exact Grew.call hw' (HRc.out w' hw')); go_simp; go_big_quiet_on)
        | (go_big_quiet_skip))
      refine wpQuiet_nil ?_
      intro w9 hw9
      go_wp2
      go_ret
      exact ⟨rfl, below_next hbB hw9⟩

end Go.Proofs.YtnomekfemadpeaaDoor
