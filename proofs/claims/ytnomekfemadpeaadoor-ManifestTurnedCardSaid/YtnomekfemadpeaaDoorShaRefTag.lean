/- The walks of the reference's Parts and Tagged, and of the law's few. Conditions: no more than 40 parts of no more than 2^20 bytes. -/
import Derived.Test.YtnomekfemadpeaaDoorShaTagged
import Derived.Test.YtnomekfemadpeaaDoorShaRefSum
namespace Go.Proofs.YtnomekfemadpeaaDoor
open Go.RowKit
set_option linter.unusedVariables false

theorem Own8.first (w : World) (e : Nat) (x : UInt8) : Own8 (w.alloc (.cells #[.int .u8 (x.toNat : Int)] e)) w.heap.size e (.slice (some ⟨w.heap.size, 0, none⟩) 1 1) [x] :=
  ⟨rfl, .inr ⟨w.heap.size, 1, #[.int .u8 (x.toNat : Int)], rfl, Nat.le_refl _, heap_alloc_new w _, Nat.le_refl _, by unfold maxLen; omega, rfl, rfl⟩⟩

theorem rem_byte (q : Nat) : Value.int .u8 ((q : Int) % 256) = B8 (UInt8.ofNat (q % 256)) := by
  unfold B8
  congr 1
  rw [UInt8.toNat_ofNat', Nat.mod_mod]
  simp

set_option maxRecDepth 100000 in
set_option maxHeartbeats 1600000 in
theorem Parts_any (tag : UInt8) (v : Value) (ps : List (List UInt8)) (w : World) (hp : PartsV w v ps) (h40 : ps.length ≤ 40) (hm : ∀ p ∈ ps, p.length ≤ 1048576) :
    Calls Tryd.prog 76 #[.int .u8 (tag.toNat : Int), v] w fun e w' => ∃ v', e = .returned v' ∧ Own8 w' w.heap.size 5 v' (partsL tag ps) ∧ Below w.heap.size w w' := by
  obtain ⟨i0, hi, hz0, hz1, hz2⟩ := info_parts infoU8
  obtain ⟨va, vc, hv⟩ := hp.len
  subst hv
  have HP := Lib.hid hp
  have HM := Lib.hid hm
  have htot : ∀ k, (partsL tag (ps.take k)).length ≤ 41943401 := fun k => by
    have h1 := partsL_len tag (ps.take k) 1048576 (fun p hp => hm p (List.mem_of_mem_take hp))
    have h2 : (ps.take k).length ≤ 40 := by rw [List.length_take]; omega
    have h3 : (ps.take k).length * (8 + 1048576) ≤ 40 * (8 + 1048576) := Nat.mul_le_mul_right _ h2
    omega
  have HT := Lib.hid htot
  clear hp hm htot
  go_enter Tryd.func76, Tryd.ntmps76
  go_wp2
  generalize hW1 : w.alloc _ = W1
  obtain ⟨hO, hb, hz⟩ : Own8 W1 w.heap.size 5 (.slice (some ⟨w.heap.size, 0, none⟩) 1 1) [tag] ∧ Below w.heap.size w W1 ∧ w.heap.size + 1 = W1.heap.size := by
    subst hW1
    exact ⟨Own8.first w _ tag, (Below.refl _ w).alloc (Nat.le_refl _) _, by simp⟩
  clear hW1
  go_loopw [5, 6] (fun bv iv wr => ∃ k : Nat, k ≤ ps.length ∧ iv = .int .i64 k ∧ Own8 wr w.heap.size 5 bv (partsL tag (ps.take k)) ∧ Below w.heap.size w wr)
    (fun _ iv _ => ps.length - (intOf iv).toNat)
  case atStart => exact ⟨0, by omega, rfl, hO, hb⟩
  case round =>
    clear hO hb hz
    obtain ⟨k, hk, rfl, hO, hb⟩ := hrel
    obtain ⟨X, hX⟩ : ∃ X, X = partsL tag (ps.take k) := ⟨_, rfl⟩
    have hXl : X.length ≤ 41943401 := by rw [hX]; exact HT.out k
    rw [← hX] at hO
    obtain ⟨oa, oc, rfl⟩ := hO.bytes.len
    have HO := Lib.hid hO
    have HB := Lib.hid hb
    have EX := Lib.hid hX
    have hz := hb.size
    clear hO hb hX
    by_cases hlt : k < ps.length
    · obtain ⟨pb, poff, pc, hpv, hpb, hat⟩ := HP.out.at_ (by omega)
      obtain ⟨rfl, rfl⟩ : va = some ⟨pb, poff, none⟩ ∧ vc = pc := by cases hpv; exact ⟨rfl, rfl⟩
      obtain ⟨ua, uc, hcell, hu⟩ := hat k hlt
      obtain ⟨p, hp⟩ : ∃ p, p = ps.getD k [] := ⟨_, rfl⟩
      rw [← hp] at hcell hu
      have hpl : p.length ≤ 1048576 := by
        rw [hp, List.getD_eq_getElem?_getD, List.getElem?_eq_getElem hlt]; exact HM.out _ (List.getElem_mem hlt)
      have hc1 : wr.cell? ⟨pb, poff + k, none⟩ = some (.slice ua p.length uc) := (HB.out.cell (p := ⟨pb, poff + k, none⟩) hpb).trans hcell
      have HU := Lib.hid hu
      have EP := Lib.hid hp
      have HC0 := Lib.hid (And.intro hcell hpb)
      clear hpv hat hcell hu hp hpb
      obtain ⟨wo, rfl⟩ : ∃ wo : World, wo = wr := ⟨_, rfl⟩
      go_wp2
      go_loopw [5, 7, 8] (fun bv nv jv wx => ∃ j : Nat, j ≤ 8 ∧ jv = .int .i64 j ∧ nv = .int .u64 ((p.length / 256 ^ j : Nat) : Int) ∧ Own8 wx w.heap.size 5 bv (X ++ (len8 p.length).take j) ∧ Below w.heap.size wo wx)
        (fun _ _ jv _ => 8 - (intOf jv).toNat)
      case atStart => exact ⟨0, by omega, rfl, by simp, by simpa using HO.out, Below.refl _ _⟩
      case round =>
        obtain ⟨j, hj, rfl, rfl, hown, hbx⟩ := hrel
        obtain ⟨Y, hY⟩ : ∃ Y, Y = X ++ (len8 p.length).take j := ⟨_, rfl⟩
        have hYl : Y.length = X.length + j := by rw [hY, List.length_append, List.length_take, len8_len]; omega
        rw [← hY] at hown
        have EY := Lib.hid hY
        obtain ⟨ya, yc, rfl⟩ := hown.bytes.len
        have HY := Lib.hid hown
        have hsx := hbx.size
        clear hY hown
        by_cases hjt : j < 8
        · obtain ⟨q, hq⟩ : ∃ q, q = p.length / 256 ^ j := ⟨_, rfl⟩
          have hql : q ≤ 1048576 := by rw [hq]; exact Nat.le_trans (Nat.div_le_self _ _) hpl
          have hqn : q / 256 = p.length / 256 ^ (j + 1) := by rw [hq, Nat.div_div_eq_div_mul, Nat.pow_succ]
          have HQ := Lib.hid hq
          have HQN := Lib.hid hqn
          rw [← hq]
          have HY1 := Lib.hid (HY.out.alloc (.cells #[.int .u8 ((q : Int) % 256)] 5))
          have one1 : ∀ W : World, Bytes (W.alloc (.cells #[.int .u8 ((q : Int) % 256)] 5)) (.slice (some ⟨W.heap.size, 0, none⟩) 1 1) [UInt8.ofNat (q % 256)] := fun W => by
            rw [rem_byte]; exact Bytes.one W _ 5
          have HYL := Lib.hid hYl
          clear hYl hq hqn
          go_wp2_with (at_builtin; refine wpList_app8 rfl (.tmp 27) (.tmp 31) 22 rfl w.heap.size 5 i0 Tryd.underlying22 hi hz0 hz1 hz2 _ _ rfl HY1.out _ [UInt8.ofNat (q % 256)] rfl (one1 wr) ?d1 ?d2 ?_)
          case d1 => rw [HYL.out]; simp; omega
          case d2 => simp; omega
          intro v3 w3 ho3 hg3 _
          have hb3 := app_kept HY1.out HY.out (by omega) hg3
          go_wp2
          go_roundw
          case rel =>
            refine ⟨j + 1, by omega, by go_num, by rw [← HQN.out]; rfl, ?_, hbx.trans hb3⟩
            rw [len8_next _ _ hjt, ← List.append_assoc, ← EY.out, ← HQ.out]
            exact ho3
          case measure => simp [intOf]; omega
        · obtain rfl : j = 8 := by omega
          have eY : Y = X ++ len8 p.length := by rw [EY.out, List.take_of_length_le (by rw [len8_len]; omega)]
          rw [show ((8 : Nat) : Int) = 8 from rfl]
          obtain ⟨nq, hnq⟩ : ∃ q : Int, q = ((p.length / 256 ^ 8 : Nat) : Int) := ⟨_, rfl⟩
          rw [← hnq]
          have HYL := Lib.hid hYl
          have HE := Lib.hid eY
          have hc2 : wr.cell? ⟨pb, poff + k, none⟩ = some (.slice ua p.length uc) := ((HB.out.trans hbx).cell (p := ⟨pb, poff + k, none⟩) HC0.out.2).trans HC0.out.1
          have HU1 := Lib.hid (HU.out.of_new (HB.out.trans hbx))
          clear hYl eY hjt hnq
          go_wp2_with (at_builtin; refine wpList_app8 rfl (.tmp 35) (.tmp 39) 22 rfl w.heap.size 5 i0 Tryd.underlying22 hi hz0 hz1 hz2 _ _ rfl HY.out _ p rfl HU1.out ?d1 ?d2 ?_)
          case d1 => rw [HYL.out]; omega
          case d2 => omega
          intro v3 w3 ho3 hg3 _
          have hb3 : Below w.heap.size wr w3 := (Below.refl _ _).grown hg3 (by omega) (fun q hq => (HY.out.lt q hq).1)
          go_wp2
          go_roundw
          case rel =>
            refine ⟨k + 1, by omega, by go_num, ?_, HB.out.trans (hbx.trans hb3)⟩
            rw [partsTo_next _ _ _ hlt, ← EX.out, ← EP.out, ← HE.out]
            exact ho3
          case measure => simp [intOf]; omega
    · obtain rfl : k = ps.length := by omega
      have eX : X = partsL tag ps := by rw [EX.out, List.take_length]
      have HEX := Lib.hid eX
      clear eX hlt hk
      go_wp2
      go_ret
      exact ⟨_, rfl, HEX.out ▸ HO.out, HB.out⟩

set_option maxRecDepth 100000 in
set_option maxHeartbeats 800000 in
theorem RTagged_any (tag : UInt8) (v : Value) (ps : List (List UInt8)) (w : World) (hp : PartsV w v ps) (h40 : ps.length ≤ 40) (hm : ∀ p ∈ ps, p.length ≤ 1048576) :
    Calls Tryd.prog 48 #[.int .u8 (tag.toNat : Int), v] w fun e w' => e = .returned (.agg ((sumL (partsL tag ps)).map B8).toArray) ∧ Below w.heap.size w w' := by
  have hl : (partsL tag ps).length ≤ 41943401 := by
    have h1 := partsL_len tag ps 1048576 hm
    have h3 : ps.length * (8 + 1048576) ≤ 40 * (8 + 1048576) := Nat.mul_le_mul_right _ h40
    omega
  have HDL := Lib.hid (sumL_len (partsL tag ps))
  obtain ⟨va, vc, hv⟩ := hp.len
  subst hv
  have HP := Lib.hid hp
  have HM := Lib.hid hm
  clear hp hm
  go_enter Tryd.func48, Tryd.ntmps48
  go_wp2_with fail
  generalize hW1 : w.alloc _ = W1
  obtain ⟨hR, hb⟩ : Octs W1 w.heap.size 25 (List.replicate 32 0) ∧ Below w.heap.size w W1 ∧ w.heap.size + 1 = W1.heap.size := by
    subst hW1
    exact ⟨heap_alloc_new w _, (Below.refl _ w).alloc (Nat.le_refl _) _, by simp⟩
  obtain ⟨hb, hz⟩ := hb
  clear hW1
  refine (Parts_any tag _ ps _ (HP.out.of_new hb) h40 HM.out).mono ?_
  rintro e w1 ⟨v1, rfl, ho1, hb1⟩
  have hR1 := hR.of_block (hb1.block _ (by omega))
  have hbA := below_next hb hb1
  have hz1 := hb1.size
  have HO := Lib.hid ho1.bytes
  clear hR hb hb1 ho1
  go_wp2_with fail
  refine (RSum_any _ _ _ HO.out (by omega)).mono ?_
  rintro e w2 ⟨rfl, hb2⟩
  have hR2 := Lib.hid (hR1.of_block (hb2.block _ (by omega)))
  have hbF := Lib.hid (below_next hbA hb2)
  clear hb2 hbA hR1
  go_wp2_with ((with_reducible refine wpList_store_octs (op := ⟨none, Op.store 25 (.tmp 4) (.tmp 8), _, _, _, _⟩) 25 (.tmp 4) (.tmp 8) w.heap.size 25 (List.replicate 32 (0 : UInt8)) (sumL (partsL tag ps)) ?g ?ho ?hx ?hy ?hh ?hi ?hs ?_); (case g => rfl); (case ho => rfl); (case hx => rfl); (case hy => rfl); (case hh => exact hR2.out); (case hi => rw [HDL.out]; kernel_rfl); (case hs => rw [HDL.out]; rfl))
  refine bodyPost_ret (results_cell rfl _ rfl (run_loadVar_row _ _ 25 _ ((sumL (partsL tag ps)).map B8).toArray (0, 0) _ (setRow_heap _ _ _ _ _ _ hR2.out) Tryd.underlying25 rfl (by rw [info_dig]; simp [sumL_len]))) rfl ⟨rfl, ?_⟩
  exact hbF.out.trans (below_setRow' _ _ _ (Nat.le_refl _))

end Go.Proofs.YtnomekfemadpeaaDoor
