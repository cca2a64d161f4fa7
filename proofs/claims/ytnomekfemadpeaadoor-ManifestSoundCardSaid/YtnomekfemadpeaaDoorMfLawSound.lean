/- The walk of the law ManifestSound: it answers true. Condition: the table of constants as the program lays it. -/
import Derived.Test.YtnomekfemadpeaaDoorGc
import Derived.Test.YtnomekfemadpeaaDoorStr
namespace Go.Proofs.YtnomekfemadpeaaDoor
open Go.RowKit
set_option linter.unusedVariables false
set_option linter.unusedSimpArgs false
set_option maxRecDepth 100000

set_option maxHeartbeats 12800000 in
theorem ManifestSound_walk (v : Value) (b : List UInt8) (x0 x1 : Int) (u : Value) (ps : List (List UInt8)) (w : World) (hl : Bytes w v b)
    (n1 : -9223372036854775808 ≤ x0) (n2 : x0 ≤ 9223372036854775807) (i1 : -9223372036854775808 ≤ x1) (i2 : x1 ≤ 9223372036854775807) (hp : PartsV w u ps) (hKc : Consts w) :
    Calls Tryd.prog 7 #[v, .agg #[.int .i64 x0, .int .i64 x1], u] w fun e w' => e = .returned (.bool true) ∧ Below w.heap.size w w' := by
  obtain ⟨i0, hi, hz0, hz1, hz2⟩ := info_parts infoU8
  obtain ⟨la, lc, hv⟩ := hl.len
  subst hv
  have hle0 := hl.le
  have HL := Lib.hid hl
  clear hl
  obtain ⟨va, vc, hv⟩ := hp.len
  subst hv
  have hle := hp.le
  have HP := Lib.hid hp
  clear hp
  obtain ⟨W1, hW1⟩ : ∃ W1, W1 = w.alloc (.cells #[.int .i64 x0, .int .i64 x1] 36) := ⟨_, rfl⟩
  have hbx : Below w.heap.size w W1 ∧ W1.heap[w.heap.size]? = some (.cells #[.int .i64 x0, .int .i64 x1] 36 (0, 0)) := by
    subst hW1
    exact ⟨(Below.refl _ w).alloc (Nat.le_refl _) _, heap_alloc_new _ _⟩
  have HW := Lib.hid hW1
  clear hW1
  go_enter Tryd.func7, Tryd.ntmps7
  go_wp2_with fail
  rw [← HW.out]
  obtain ⟨hb1, hc⟩ := hbx
  clear HW
  refine (awake_any W1 (hKc.of_new hb1)).mono ?_
  rintro e w2 ⟨rfl, hb2⟩
  have hlt : w.heap.size < W1.heap.size := (Array.getElem?_eq_some_iff.1 hc).1
  have HC := Lib.hid ((hb2.block _ hlt).trans hc)
  have hB2 := below_next hb1 hb2
  have hlt2 := hb2.size
  clear hb1 hb2 hc
  have k0 : w2.cell? ⟨w.heap.size, 0, none⟩ = some (.int .i64 x0) := by simp [World.cell?, HC.out]
  by_cases hbig : (3000 : Int) < b.length
  · go_wp2
    go_ret
    exact ⟨rfl, hB2⟩
  by_cases h0 : ps.length = 0
  · have t0 : ((ps.length : Int) == 0) = true := beq_iff_eq.2 (by omega)
    go_wp2
    go_ret
    exact ⟨rfl, hB2⟩
  have t0 : ((ps.length : Int) == 0) = false := beq_eq_false_iff_ne.2 (by omega)
  by_cases h50 : 50 < ps.length
  · have t1 : (50 : Int) < (ps.length : Int) := by omega
    go_wp2
    go_ret
    exact ⟨rfl, hB2⟩
  have t1 : ¬ (50 : Int) < (ps.length : Int) := by omega
  obtain ⟨pb, poff, pc, hv, hpl, hpc⟩ := HP.out.at_ (by omega)
  obtain ⟨rfl, rfl⟩ : va = some ⟨pb, poff, none⟩ ∧ vc = pc := by cases hv; exact ⟨rfl, rfl⟩
  obtain ⟨a0, c0, hx0, hy0⟩ := hpc 0 (by omega)
  have t2 : (0 : Int) < (ps.length : Int) := by omega
  have z0 := (hB2.cell (p := ⟨pb, poff + 0, none⟩) hpl).trans hx0
  rw [Nat.add_zero] at z0
  have HPC := Lib.hid hpc
  clear hpc hv hx0
  obtain ⟨y0, hy⟩ : ∃ y, ps.getD 0 [] = y := ⟨_, rfl⟩
  rw [hy] at z0 hy0
  clear hy
  by_cases h30 : 3000 < y0.length
  · have t3 : (3000 : Int) < (y0.length : Int) := by omega
    go_wp2
    go_ret
    exact ⟨rfl, hB2⟩
  have t3 : ¬ (3000 : Int) < (y0.length : Int) := by omega
  have HY0 := Lib.hid hy0
  clear hy0
  go_wp2_with fail
  refine (Blob_any _ b x0 w2 (HL.out.of_new hB2) (hKc.of_new hB2)).mono ?_
  rintro e w3 ⟨rfl, hb3⟩
  have hB3 := below_next hB2 hb3
  have HC3 := Lib.hid ((hb3.block _ (by omega)).trans HC.out)
  have hs3 := hb3.size
  have z3 := (hb3.cell (p := ⟨pb, poff, none⟩) (by have := hB2.size; show pb < w2.heap.size; omega)).trans z0
  clear k0 HC hb3 hB2 z0
  rcases hr : mrightB b.length x0 with _ | _
  · have hE : blobE b x0 = (BlobL.zero, 1) := by unfold blobE; rw [hr]; rfl
    rw [hE]
    clear hE hr
    go_wp2_with (first
      | ((with_reducible refine wpList_plain (o := ⟨none, Op.store 27 (.tmp 8) _, _, _, _, _⟩) rfl fun K hK => ?_); (refine wp_store_blob (.tmp 8) (.tmp 53) w3.heap.size BlobL.zero BlobL.zero rfl rfl rfl BlobL.zero_ok ⟨heap_alloc_new _ _, BlobL.zero_ok⟩ fun w4 hx4 hg4 hs4 => hK _ _ ?_); have hb4 : Below w3.heap.size w3 w4 := ((Below.refl _ w3).alloc (Nat.le_refl _) _).grown hg4 (by simp) (fun r e => by cases e; omega); have HB4 := Lib.hid hb4; clear hx4 hg4 hs4 hb4))
    go_ret
    exact ⟨rfl, below_next hB3 HB4.out⟩
  have hE : blobE b x0 = (⟨sumL b, b.length, x0, rootL (leavesL b x0.toNat)⟩, 0) := by unfold blobE; rw [hr]; rfl
  have hok := blobE_ok b x0
  have hps := fun (pr : List (List UInt8)) => piece_sound (p0 := y0) (i := x1) (proof := pr) hr
  rw [hE] at hok ⊢
  have hle1 : leavesE b x0 = (leavesL b x0.toNat, 0) := by unfold leavesE; rw [if_pos hr]
  have hysz : (⟨sumL b, b.length, x0, rootL (leavesL b x0.toNat)⟩ : BlobL).size = b.length := rfl
  have hypc : (⟨sumL b, b.length, x0, rootL (leavesL b x0.toNat)⟩ : BlobL).piece = x0 := rfl
  dsimp only at hok ⊢
  generalize (⟨sumL b, b.length, x0, rootL (leavesL b x0.toNat)⟩ : BlobL) = y at *
  have HPS := Lib.hid hps
  have HLE := Lib.hid hle1
  have HYS := Lib.hid hysz
  have HYP := Lib.hid hypc
  clear hr hE hps hle1 hysz hypc
  have hbl : b.length ≤ 3000 := by omega
  go_wp2_with (first
    | ((with_reducible refine wpList_plain (o := ⟨none, Op.store 27 (.tmp 8) _, _, _, _, _⟩) rfl fun K hK => ?_); (refine wp_store_blob (.tmp 8) (.tmp 53) w3.heap.size y BlobL.zero rfl rfl rfl hok ⟨heap_alloc_new _ _, BlobL.zero_ok⟩ fun w1 hx4 hg4 hs4 => hK _ _ ?_); have hb4 : Below w3.heap.size w3 w1 := ((Below.refl _ w3).alloc (Nat.le_refl _) _).grown hg4 (by simp) (fun r e => by cases e; omega); have HX := Lib.hid hx4; have HB4 := Lib.hid hb4; clear hx4 hg4 hs4 hb4 hK))
  have hb4 := HB4.out
  have hbA := below_next hB3 hb4
  have z0 := (hb4.cell (p := ⟨pb, poff, none⟩) (by have := hB3.size; show pb < w3.heap.size; omega)).trans z3
  have HC := Lib.hid ((hb4.block _ (by omega)).trans HC3.out)
  have hs1 := hb4.size
  have hxl := HX.out.lt
  clear hb4 HB4 hB3 HC3 z3
  go_loopw [10, 11, 12, 13] (fun ov kv _ _ W => PathI w1 ps ov kv W) (fun _ kv _ _ _ => ps.length - (intOf kv).toNat)
  case atStart => exact ⟨0, rfl, by omega, OwnD.nil _ _, Below.refl _ _⟩
  case round =>
    obtain ⟨k, rfl, hk, ho, hb⟩ := hrel
    generalize wr = wo at *
    have hsz := hb.size
    obtain ⟨oa, oc, hv⟩ := ho.digs.len
    subst hv
    have hol := proofOf_len hk
    have HO := Lib.hid ho
    have HOL := Lib.hid hol
    clear ho hol
    obtain ⟨P, hP⟩ : ∃ P, proofOf ps k = P := ⟨_, rfl⟩
    rw [hP] at HO HOL ⊢
    by_cases hlt : k + 1 < ps.length
    · have hstep := proofOf_step hlt
      rw [hP] at hstep
      obtain ⟨ua, uc, hu1, hub⟩ := HPC.out (k + 1) hlt
      have hu2 := (hb.cell (p := ⟨pb, poff + (k + 1), none⟩) (by have := hbA.size; show pb < w1.heap.size; omega)).trans ((hbA.cell (p := ⟨pb, poff + (k + 1), none⟩) hpl).trans hu1)
      obtain ⟨xk, hxk⟩ : ∃ xk, ps.getD (k + 1) [] = xk := ⟨_, rfl⟩
      rw [hxk] at hstep hub hu2
      have HST := Lib.hid hstep
      have HUB := Lib.hid hub
      have hk1 : ((k + 1 : Nat) : Int) < (ps.length : Int) := by omega
      clear hstep hub hu1 hxk
      obtain ⟨K, hK⟩ : ∃ K, k + 1 = K := ⟨_, rfl⟩
      rw [hK] at hu2 hk1 ⊢
      go_wp2
      generalize hW3 : wo.alloc _ = W3
      obtain ⟨hO3, hb3⟩ : Octs W3 wo.heap.size 25 (List.replicate 32 0) ∧ Below wo.heap.size wo W3 := by
        subst hW3
        exact ⟨heap_alloc_new _ _, (Below.refl _ wo).alloc (Nat.le_refl _) _⟩
      clear hW3
      go_loopw [13] (PadI wo wo.heap.size xk) (fun jv _ => 32 - (intOf jv).toNat)
      case atStart => exact ⟨0, rfl, by omega, by omega, by simpa using hO3, hb3⟩
      case round =>
        obtain ⟨j, rfl, hj1, hj2, hoc, hbj⟩ := hrel
        have hszj := hbj.size
        have hglt := (Array.getElem?_eq_some_iff.1 hoc).1
        have hcu := (hbj.cell (p := ⟨pb, poff + K, none⟩) (by have := hbA.size; show pb < wo.heap.size; omega)).trans hu2
        have HOC := Lib.hid hoc
        clear hoc
        by_cases hc : j < 32 ∧ j < xk.length
        · obtain ⟨hc1, hc2⟩ := hc
          obtain ⟨ub, uoff, uc', hv, hubl, hcell⟩ := HUB.out.cell (by omega)
          obtain ⟨rfl, rfl⟩ : ua = some ⟨ub, uoff, none⟩ ∧ uc = uc' := by cases hv; exact ⟨rfl, rfl⟩
          have hcy := (hbj.cell (p := ⟨ub, uoff + j, none⟩) (by have := hbA.size; show ub < wo.heap.size; omega)).trans ((hb.cell (p := ⟨ub, uoff + j, none⟩) (by have := hbA.size; show ub < w1.heap.size; omega)).trans ((hbA.cell (p := ⟨ub, uoff + j, none⟩) hubl).trans (hcell j hc2)))
          have hset := HOC.out.set j (xk.getD j 0)
          rw [pad_step hc1 hc2] at hset
          have hset' := hset
          unfold B8 at hcy hset
          generalize xk.getD j 0 = yb at *
          have hfr := HOC.out.free j
          obtain ⟨old, hold⟩ : ∃ old, wr.cell? ⟨wo.heap.size, j, none⟩ = some old := ⟨_, HOC.out.cell (by simp; omega)⟩
          have i1 : (j : Int) < 32 := by omega
          have i2 : (j : Int) < (xk.length : Int) := by omega
          have HSET := Lib.hid hset
          clear hset hset' hcell hv
          go_wp2
          refine ⟨⟨j + 1, by go_num, by omega, by omega, HSET.out, hbj.setCell (p := ⟨wo.heap.size, j, none⟩) (Nat.le_refl _) _⟩, ?_⟩
          simp only [intOf]; omega
        · have hend : j = 32 ∨ j = xk.length := by omega
          rw [pad_end hj1 hj2 hend] at HOC
          obtain ⟨d, hd⟩ : ∃ d, pad32 xk = d := ⟨_, rfl⟩
          have hd32 : d.length = 32 := by rw [← hd]; exact pad32_len xk
          rw [hd] at HOC HST
          have hat := HOC.out.digAt hd32
          have HAT := Lib.hid hat
          have hdd : Dig32 [d] := fun q hq => by simp at hq; rw [hq]; exact hd32
          have HO1 := Lib.hid (HO.out.of_new hbj)
          have HBJ := Lib.hid (below_next hb hbj)
          have hw1s : w1.heap.size ≤ wr.heap.size := by omega
          have hPl : P.length ≤ 50 := by have := HOL.out; omega
          have HK2 := Lib.hid (show (K : Int) + 1 = ((k + 1 + 1 : Nat) : Int) by omega)
          clear hat hd hO3 hb3 hbj hb HO
          by_cases hj32 : j < 32
          all_goals
            first
              | (have i1 : (j : Int) < 32 := by omega)
              | (have i1 : ¬ (j : Int) < 32 := by omega)
            have i2 : (j : Int) < 32 → ¬ (j : Int) < (xk.length : Int) := by omega
            have i3 := i2
            clear i3 hend hc hj1 hj2
            first
              | (replace i2 := i2 i1)
              | clear i2
            go_wp2_with (first
              | ((with_reducible refine wpList_plain (o := ⟨some 88, Op.load 25 _, _, _, _, _⟩) rfl fun K' hK' => ?_); (refine wp_load_at (ty := 25) (x := .tmp 12) rfl rfl HAT.out (hK' _ _ ?_)))
              | ((with_reducible refine wpList_plain (o := ⟨some 89, _, _, _, _, _⟩) rfl fun K' hK' => ?_); refine wp_buildDigs 1 _ [d] rfl rfl (by simp) (by simp) hdd (by simp only [List.map_toArray, List.map_cons, List.map_nil]; rfl) ?_; intro w4 ho4 hb4 hs4; refine hK' _ _ ?_; have HO4 := Lib.hid ho4.digs; have HB4 := Lib.hid hb4; have HO5 := Lib.hid (HO1.out.of_new hb4); clear ho4 hb4 hK')
              | ((with_reducible refine wpList_plain (o := ⟨some 90, _, _, _, _, _⟩) rfl fun K' hK' => ?_); refine wp_appD (.tmp 87) (.tmp 89) rfl w1.heap.size _ P rfl HO5.out _ [d] rfl HO4.out (by simp; omega) (by have := HB4.out.size; omega) ?_; intro v6 w6 ho6 hg6 hu6; refine hK' _ _ ?_; obtain ⟨a6, c6, hv6⟩ := ho6.digs.len; subst hv6; clear hK'))
            go_wp2
            go_roundw
            case rel =>
              refine ⟨k + 1, by rw [← HK2.out], by omega, ?_, ?_⟩
              · rw [HST.out]
                rw [List.length_append] at ho6
                exact ho6
              · exact (below_next HBJ.out HB4.out).grown hg6 (by have := HB4.out.size; omega) (fun r e => (HO5.out.lt r e).1)
            case measure => simp [intOf]; omega
    · have hk1 : ¬ (((k + 1 : Nat) : Int) < (ps.length : Int)) := by omega
      obtain ⟨K, hK⟩ : ∃ K, k + 1 = K := ⟨_, rfl⟩
      rw [hK] at hk1 ⊢
      have hbB := below_next hbA hb
      have HBO2 := Lib.hid (HX.out.of_new hb)
      have HD := Lib.hid HO.out.digs
      have HC2 := Lib.hid ((hb.block _ (by omega)).trans HC.out)
      have z2 := (hb.cell (p := ⟨pb, poff, none⟩) (by have := hbA.size; show pb < w1.heap.size; omega)).trans z0
      have HB := Lib.hid hbB
      have c1 : wo.cell? ⟨w.heap.size, 1, none⟩ = some (.int .i64 x1) := by simp [World.cell?, HC2.out]
      have z3 : ∀ w', Grew wo w' → w'.cell? ⟨pb, poff, none⟩ = some (.slice a0 y0.length c0) := fun w' hw' => hw'.cell z2
      have c3 : ∀ w', Grew wo w' → w'.cell? ⟨w.heap.size, 1, none⟩ = some (.int .i64 x1) := fun w' hw' => hw'.cell c1
      have hPc := fun w' (h : Grew wo w') => Piece_any y x1 (.slice a0 y0.length c0) y0 (.slice oa P.length oc) P w' hok i1 i2 (HY0.out.of_new (below_next hbB h)) (HD.out.of_new h) (hKc.of_new (below_next hbB h))
      have HPc := Lib.hid hPc
      clear hPc z2 c1 hb hbA z0
      have hps := HPS.out P
      have HPL := Lib.hid HOL.out
      clear HPS HOL HO
      obtain ⟨E, hE⟩ : ∃ E, pieceB y x1 y0 P = E := ⟨_, rfl⟩
      rw [hE] at hps HPc
      clear hE
      go_upto_region 17 with (fail)
      refine wp_region_grew (by kernel_rfl) (by kernel_rfl) ?_
      repeat (first
        | (go_big_quiet_want; (with_reducible apply quiet_load_blob (p := .tmp 8)); rfl; rfl; exact HBO2.out; go_simp; go_big_quiet_on)
        | (go_big_quiet_want; (with_reducible apply quiet_load_at (ty := 25) (x := .tmp _)); rfl; rfl; assumption; go_simp; go_big_quiet_on)
        | (go_big_quiet_want; apply quiet_val; (intro w' hw'; go_simp; first | done | rfl); go_simp; go_big_quiet_on)
        | (go_big_quiet_want; apply quiet_call (f := 24); (intro w' hw'; go_simp; first | done | rfl); (intro w' hw'; exact Grew.call hw' (HPc.out w' hw')); go_simp; go_big_quiet_on)
        | (go_big_quiet_skip))
      refine wpQuiet_nil ?_
      intro w9 hw9
      have hB9 := below_next HB.out hw9
      have HX9 := Lib.hid (HBO2.out.of_new hw9)
      have HD9 := Lib.hid (HD.out.of_new hw9)
      have z9 := z3 w9 hw9
      have c9 := c3 w9 hw9
      have hs9 := Below.size hw9
      clear z3 c3 HPc HB HBO2 HD
      cases E with
      | false =>
        go_wp2
        go_ret
        exact ⟨rfl, hB9⟩
      | true =>
      obtain ⟨at_, n, j, hsp, han, hpn, rfl, hjl, hl1024, hcn, hor⟩ := hps rfl
      have hSp := RSpan_any y (j : Int) w9 hok i1 i2
      rw [HYS.out, HYP.out, hsp] at hSp
      dsimp only at hSp
      have t5 : ((y0.length : Int) != (n : Int)) = false := by simp [hpn]
      obtain ⟨vr, hrun, hreal, _⟩ := (HL.out.of_new hB9).part (P := Tryd.prog) Tryd.underlying22 hi hz1 (some (.int .i64 (at_ : Int))) (some (.int .i64 ((at_ : Int) + (n : Int)))) at_ (at_ + n) (by omega) (by omega) (.inr ⟨_, rfl⟩) (.inr ⟨.i64, by simp⟩)
      rw [show at_ + n - at_ = n by omega] at hreal
      obtain ⟨real, hre⟩ : ∃ real, (b.drop at_).take n = real := ⟨_, rfl⟩
      rw [hre] at hreal hor
      have hrl : real.length ≤ 3000 := by rw [← hre]; simp; omega
      clear hre
      have HSp := Lib.hid hSp
      have HOR := Lib.hid hor
      have HRE := Lib.hid hreal
      have hy3 : y0.length ≤ 3000 := by omega
      have hbs : at_ + n ≤ b.length := han
      have hat : (at_ : Int) + (n : Int) ≤ 3000 := by omega
      obtain ⟨ra, rc, hv⟩ := hreal.len
      subst hv
      clear hSp hor hreal hpn hps hsp han
      go_upto_region 21 with (first
        | ((with_reducible refine wpList_plain (o := ⟨some 102, _, _, _, _, _⟩) rfl fun K hK => ?_); (refine wp_load_blob (g := w3.heap.size) (x := y) rfl rfl HX9.out (hK _ _ ?_)))
        | (go_at_call 18; refine HSp.out.mono ?_; rintro e wa ⟨rfl, hba⟩; have HBa := Lib.hid hba; have za := Grew.cell hba z9; have ca := Grew.cell hba c9; clear hba))
      have hBa := below_next hB9 HBa.out
      have HXa := Lib.hid (HX9.out.of_new HBa.out)
      have HDa := Lib.hid (HD9.out.of_new HBa.out)
      have HREa := Lib.hid (HRE.out.of_new HBa.out)
      have hsa := HBa.out.size
      have hLa := RLeaf_any (.slice a0 y0.length c0) y0 wa (HY0.out.of_new hBa) (by omega)
      have HLa := Lib.hid hLa
      clear HSp HX9 HD9 HRE z9 c9 hLa
      go_upto_region 25 with (first
        | (go_at_call 26; refine HLa.out.mono ?_; rintro e wb ⟨rfl, hbb⟩; have HBb := Lib.hid hbb; have zb := Grew.cell hbb za; have cb := Grew.cell hbb ca; clear hbb)
        | (with_reducible refine wpList_store_fresh (op := ⟨none, Op.store 25 (.tmp 19) (.tmp 128), _, _, _, _⟩) (.tmp 19) (.tmp 128) (leafL y0) ?_ ?_ ?_ ?_ ?_ ?_ ?_); rfl; rfl; rfl; rfl; rfl; exact leafL_len y0; intro wc hxc hoc hbc hzc)
      have hWo := below_next (below_next (below_next hw9 HBa.out) HBb.out) hbc
      have hBc := below_next (below_next hBa HBb.out) hbc
      have zc := Grew.cell hbc zb
      have HCc := Lib.hid ((hWo.block _ (by have := hbB.size; omega)).trans HC2.out)
      have cc0 : wc.cell? ⟨w.heap.size, 0, none⟩ = some (.int .i64 x0) := by simp [World.cell?, HCc.out]
      have cc1 : wc.cell? ⟨w.heap.size, 1, none⟩ = some (.int .i64 (j : Int)) := by simp [World.cell?, HCc.out]
      have HDc := Lib.hid ((HDa.out.of_new HBb.out).of_new hbc)
      have HREc := Lib.hid ((HREa.out.of_new HBb.out).of_new hbc)
      have hRL := RLeaves_any (.slice la b.length lc) b x0 wc (HL.out.of_new hBc)
      rw [HLE.out] at hRL
      obtain ⟨L, hL⟩ : ∃ L, leavesL b x0.toNat = L := ⟨_, rfl⟩
      rw [hL] at hRL HOR hjl hl1024 hcn
      have HRL := Lib.hid hRL
      clear hRL hL hoc hbc HBb HBa HDa HREa HXa HLa hw9 hWo za ca zb cb HLE
      go_upto_region 26 with (first
        | (go_at_call 14; refine HRL.out.mono ?_; rintro e wd ⟨vd, rfl, hod, hbd⟩; obtain ⟨ad, cd, hvd⟩ := hod.digs.len; subst hvd; have HOD := Lib.hid hod; have HBD := Lib.hid hbd; clear hod hbd; dsimp only at HOD ⊢))
      have hod := HOD.out
      have hBd := below_next hBc HBD.out
      have HLd := Lib.hid hod.digs
      have HDd := Lib.hid (HDc.out.of_new HBD.out)
      have HYd := Lib.hid (HY0.out.of_new hBd)
      have HRd := Lib.hid (HREc.out.of_new HBD.out)
      have hxd := hxc.of_new HBD.out
      have zd : ∀ w', Grew wd w' → w'.cell? ⟨pb, poff, none⟩ = some (.slice a0 y0.length c0) := fun w' hw' => hw'.cell (Grew.cell HBD.out zc)
      have cd1 : ∀ w', Grew wd w' → w'.cell? ⟨w.heap.size, 1, none⟩ = some (.int .i64 (j : Int)) := fun w' hw' => hw'.cell (Grew.cell HBD.out cc1)
      have s1 := fun w' (hw' : Grew wd w') => (hw'.bytes HYd.out).string (P := Tryd.prog) (t := 22) (d := 9) Tryd.underlying22 Tryd.underlying5 Tryd.underlying9
      have s2 := fun w' (hw' : Grew wd w') => (hw'.bytes HRd.out).string (P := Tryd.prog) (t := 22) (d := 9) Tryd.underlying22 Tryd.underlying5 Tryd.underlying9
      have hLr := fun w' (hw' : Grew wd w') => RLeaf_any (.slice ra real.length rc) real w' (HRd.out.of_new hw') (by omega)
      have hCl := fun w' (hw' : Grew wd w') => Clash_any (.slice ad L.length cd) L j (leafL y0) (.slice oa P.length oc) P w' (HLd.out.of_new hw') hjl hl1024 (leafL_len y0) (HDd.out.of_new hw') hcn
      have heq := run_eql_dig (leafL y0) (leafL real) (leafL_len y0) (leafL_len real)
      have hgd := guard_dig
      have HLr := Lib.hid hLr
      have HCl := Lib.hid hCl
      have hor := HOR.out
      clear hod zc cc0 cc1 hxc HOD HDc HREc HBD hLr hCl HOR HRL
      by_cases hst : y0 = real
      · have e1 : (ByteArray.mk y0.toArray == ByteArray.mk real.toArray) = true := by rw [str_eq, decide_eq_true hst]
        have e2 : (y0.toArray == real.toArray) = true := by simp [hst]
        have e3 : (y0 == real) = true := by simp [hst]
        have e4 : decide (y0 = real) = true := by simp [hst]
        have HST := Lib.hid hst
        clear hst heq hor
        refine wp_region_grew (by kernel_rfl) (by kernel_rfl) ?_
        repeat (first
          | (go_big_quiet_want; (with_reducible apply quiet_load_at (ty := 25) (x := .tmp _)); rfl; rfl; assumption; go_simp; go_big_quiet_on)
          | (go_big_quiet_want; apply quiet_val; (intro w' hw'; go_simp; first | done | rfl); go_simp; go_big_quiet_on)
          | (go_big_quiet_skip))
        refine wpQuiet_nil ?_
        intro w10 hw10
        go_wp2
        go_ret
        exact ⟨rfl, below_next hBd hw10⟩
      · have e1 : (ByteArray.mk y0.toArray == ByteArray.mk real.toArray) = false := by rw [str_eq, decide_eq_false hst]
        have e2 : (y0.toArray == real.toArray) = false := by simp [hst]
        have e3 : (y0 == real) = false := by simp [hst]
        have e4 : decide (y0 = real) = false := by simp [hst]
        by_cases hll : leafL y0 = leafL real
        · rw [decide_eq_true hll] at heq
          clear hst hll hor
          refine wp_region_grew (by kernel_rfl) (by kernel_rfl) ?_
          repeat (first
            | (go_big_quiet_want; (with_reducible apply quiet_load_at (ty := 25) (x := .tmp _)); rfl; rfl; assumption; go_simp; go_big_quiet_on)
            | (go_big_quiet_want; apply quiet_val; (intro w' hw'; go_simp; first | done | rfl); go_simp; go_big_quiet_on)
            | (go_big_quiet_want; apply quiet_call (f := 26); (intro w' hw'; go_simp; first | done | rfl); (intro w' hw'; exact Grew.call hw' (HLr.out w' hw')); go_simp; go_big_quiet_on)
            | (go_big_quiet_skip))
          refine wpQuiet_nil ?_
          intro w10 hw10
          go_wp2
          go_ret
          exact ⟨rfl, below_next hBd hw10⟩
        · rw [decide_eq_false hll] at heq
          have hcl := hor.resolve_left hll
          rw [hcl] at HCl
          clear hst hll hor hcl
          refine wp_region_grew (by kernel_rfl) (by kernel_rfl) ?_
          repeat (first
            | (go_big_quiet_want; (with_reducible apply quiet_load_at (ty := 25) (x := .tmp _)); rfl; rfl; assumption; go_simp; go_big_quiet_on)
            | (go_big_quiet_want; apply quiet_val; (intro w' hw'; go_simp; first | done | rfl); go_simp; go_big_quiet_on)
            | (go_big_quiet_want; apply quiet_call (f := 26); (intro w' hw'; go_simp; first | done | rfl); (intro w' hw'; exact Grew.call hw' (HLr.out w' hw')); go_simp; go_big_quiet_on)
            | (go_big_quiet_want; apply quiet_call (f := 27); (intro w' hw'; go_simp; first | done | rfl); (intro w' hw'; exact Grew.call hw' (HCl.out w' hw')); go_simp; go_big_quiet_on)
            | (go_big_quiet_skip))
          refine wpQuiet_nil ?_
          intro w10 hw10
          go_wp2
          go_ret
          exact ⟨rfl, below_next hBd hw10⟩

end Go.Proofs.YtnomekfemadpeaaDoor
