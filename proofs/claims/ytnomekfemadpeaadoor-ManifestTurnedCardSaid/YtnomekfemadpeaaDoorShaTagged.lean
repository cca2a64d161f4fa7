/- The walk of digest.Tagged: the hash of parts, of a kind. Conditions: the table of constants as the program lays it; no more than 40 parts of no more than 2^20 bytes. -/
import Derived.Test.YtnomekfemadpeaaDoorShaLay
import Derived.Test.YtnomekfemadpeaaDoorShaTagPlain
import Derived.Test.YtnomekfemadpeaaDoorLawCard
namespace Go.Proofs.YtnomekfemadpeaaDoor
open Go.RowKit
set_option linter.unusedVariables false

theorem Own8.one (w : World) (A : Array Value) (t e : Nat) (x : UInt8) : Own8 ((w.alloc (.cells A t)).alloc (.cells #[.int .u8 (x.toNat : Int)] e)) (w.heap.size + 1) e (.slice (some ⟨w.heap.size + 1, 0, none⟩) 1 1) [x] := by
  refine ⟨rfl, .inr ⟨w.heap.size + 1, 1, #[.int .u8 (x.toNat : Int)], rfl, Nat.le_refl _, ?_, Nat.le_refl _, by unfold maxLen; omega, rfl, rfl⟩⟩
  have := heap_alloc_new (w.alloc (.cells A t)) (.cells #[.int .u8 (x.toNat : Int)] e)
  rwa [World.size_alloc] at this

theorem len8_byte (n j : Nat) : Value.int .u8 ((n : Int) / 2 ^ (8 * j) % 256) = B8 (UInt8.ofNat (n / 256 ^ j % 256)) := by
  unfold B8
  congr 1
  rw [UInt8.toNat_ofNat', Nat.mod_mod, show (256 : Nat) ^ j = 2 ^ (8 * j) from by rw [Nat.pow_mul]]
  simp

/-- The i-th part of a slice of parts. -/
theorem PartsV.at_ {w : World} {v : Value} {ps : List (List UInt8)} (h : PartsV w v ps) (h0 : 0 < ps.length) : ∃ b off c, v = .slice (some ⟨b, off, none⟩) ps.length c ∧ b < w.heap.size ∧ ∀ i, i < ps.length → ∃ a c, w.cell? ⟨b, off + i, none⟩ = some (.slice a (ps.getD i []).length c) ∧ Bytes w (.slice a (ps.getD i []).length c) (ps.getD i []) := by
  obtain ⟨a, c, rfl, _, _, _, h4⟩ := h
  obtain ⟨b, off, rfl, hb, hc⟩ := h4 h0
  refine ⟨b, off, c, rfl, hb, fun i hi => ?_⟩
  obtain ⟨u, hu, hub⟩ := hc i hi
  obtain ⟨a', c', rfl⟩ := hub.len
  exact ⟨a', c', hu, hub⟩

set_option maxRecDepth 100000 in
set_option maxHeartbeats 1600000 in
theorem Tagged_any (tag : UInt8) (v : Value) (ps : List (List UInt8)) (w : World) (hp : PartsV w v ps) (h40 : ps.length ≤ 40) (hm : ∀ p ∈ ps, p.length ≤ 1048576) (hK : Consts w) :
    Calls Tryd.prog 64 #[.int .u8 (tag.toNat : Int), v] w fun e w' => e = .returned (.agg ((sumL (partsL tag ps)).map B8).toArray) ∧ Below w.heap.size w w' := by
  obtain ⟨i0, hi, hz0, hz1, hz2⟩ := info_parts infoU8
  obtain ⟨va, vc, hv⟩ := hp.len
  subst hv
  have HP := Lib.hid hp
  have HK := Lib.hid hK
  have HM := Lib.hid hm
  have htot : ∀ k, (partsL tag (ps.take k)).length ≤ 41943401 := fun k => by
    have h1 := partsL_len tag (ps.take k) 1048576 (fun p hp => hm p (List.mem_of_mem_take hp))
    have h2 : (ps.take k).length ≤ 40 := by rw [List.length_take]; omega
    have h3 : (ps.take k).length * (8 + 1048576) ≤ 40 * (8 + 1048576) := Nat.mul_le_mul_right _ h2
    omega
  have HT := Lib.hid htot
  clear hp hK hm htot
  go_enter Tryd.func64, Tryd.ntmps64
  go_wp2
  generalize hW1 : (w.alloc _).alloc _ = W1
  obtain ⟨hO, hR, hb, hz⟩ : Own8 W1 (w.heap.size + 1) 5 (.slice (some ⟨w.heap.size + 1, 0, none⟩) 1 1) [tag] ∧ Octs W1 w.heap.size 25 (List.replicate 32 0) ∧ Below w.heap.size w W1 ∧ w.heap.size + 2 = W1.heap.size := by
    subst hW1
    exact ⟨Own8.one w _ _ _ tag, (Below.heap_alloc _ _ _ (by simp)).trans (heap_alloc_new w _), ((Below.refl _ w).alloc (Nat.le_refl _) _).alloc (by simp) _, by simp⟩
  clear hW1
  go_loopw [5, 13] (fun bv iv wr => ∃ k : Nat, k ≤ ps.length ∧ iv = .int .i64 k ∧ Own8 wr (w.heap.size + 1) 5 bv (partsL tag (ps.take k)) ∧ Octs wr w.heap.size 25 (List.replicate 32 0) ∧ Below w.heap.size w wr ∧ w.heap.size + 2 ≤ wr.heap.size)
    (fun _ iv _ => ps.length - (intOf iv).toNat)
  case atStart => exact ⟨0, by omega, rfl, hO, hR, hb, by omega⟩
  case round =>
    clear hO hR hb hz
    obtain ⟨k, hk, rfl, hO, hR, hb, hz⟩ := hrel
    obtain ⟨X, hX⟩ : ∃ X, X = partsL tag (ps.take k) := ⟨_, rfl⟩
    have hXl : X.length ≤ 41943401 := by rw [hX]; exact HT.out k
    rw [← hX] at hO
    obtain ⟨oa, oc, rfl⟩ := hO.bytes.len
    have HO := Lib.hid hO
    have HR := Lib.hid hR
    have HB := Lib.hid hb
    have EX := Lib.hid hX
    clear hO hR hb hX
    by_cases hlt : k < ps.length
    · obtain ⟨pb, poff, pc, hpv, hpb, hat⟩ := HP.out.at_ (by omega)
      obtain ⟨rfl, rfl⟩ : va = some ⟨pb, poff, none⟩ ∧ vc = pc := by cases hpv; exact ⟨rfl, rfl⟩
      obtain ⟨ua, uc, hcell, hu⟩ := hat k hlt
      obtain ⟨p, hp⟩ : ∃ p, p = ps.getD k [] := ⟨_, rfl⟩
      rw [← hp] at hcell hu
      have hpl : p.length ≤ 1048576 := by
        rw [hp, List.getD_eq_getElem?_getD, List.getElem?_eq_getElem hlt]; exact HM.out _ (List.getElem_mem hlt)
      have hc1 : wr.cell? ⟨pb, poff + k, none⟩ = some (.slice ua p.length uc) := (HB.out.cell (p := ⟨pb, poff + k, none⟩) hpb).trans hcell
      have HU := Lib.hid hu
      have EP := Lib.hid hp
      clear hpv hat hcell hu hp
      obtain ⟨wo, rfl⟩ : ∃ wo : World, wo = wr := ⟨_, rfl⟩
      go_wp2
      go_loopw [5, 8, 17] (fun bv _ jv wx => ∃ j : Nat, j ≤ 8 ∧ jv = .int .i64 j ∧ Own8 wx (w.heap.size + 1) 5 bv (X ++ (len8 p.length).take j) ∧ Below (w.heap.size + 1) wo wx)
        (fun _ _ jv _ => 8 - (intOf jv).toNat)
      case atStart => exact ⟨0, by omega, rfl, by simpa using HO.out, Below.refl _ _⟩
      case round =>
        obtain ⟨j, hj, rfl, hown, hbx⟩ := hrel
        obtain ⟨Y, hY⟩ : ∃ Y, Y = X ++ (len8 p.length).take j := ⟨_, rfl⟩
        have hYl : Y.length = X.length + j := by rw [hY, List.length_append, List.length_take, len8_len]; omega
        rw [← hY] at hown
        have EY := Lib.hid hY
        obtain ⟨ya, yc, rfl⟩ := hown.bytes.len
        have HY := Lib.hid hown
        have hsx := hbx.size
        clear hY hown
        by_cases hjt : j < 8
        · have HY1 := Lib.hid (HY.out.alloc (.cells #[.int .u8 ((p.length : Int) / 2 ^ (8 * j) % 256)] 5))
          have one1 : ∀ W : World, Bytes (W.alloc (.cells #[.int .u8 ((p.length : Int) / 2 ^ (8 * j) % 256)] 5)) (.slice (some ⟨W.heap.size, 0, none⟩) 1 1) [UInt8.ofNat (p.length / 256 ^ j % 256)] := fun W => by
            rw [len8_byte]; exact Bytes.one W _ 5
          have HYL := Lib.hid hYl
          clear hYl
          go_wp2_with (at_builtin; refine wpList_app8 rfl (.tmp 20) (.tmp 28) 22 rfl (w.heap.size + 1) 5 i0 Tryd.underlying22 hi hz0 hz1 hz2 _ _ rfl HY1.out _ [UInt8.ofNat (p.length / 256 ^ j % 256)] rfl (one1 wr) ?d1 ?d2 ?_)
          case d1 => rw [HYL.out]; simp; omega
          case d2 => simp; omega
          intro v3 w3 ho3 hg3 _
          have hb3 := app_kept HY1.out HY.out (by omega) hg3
          go_wp2
          go_roundw
          case rel =>
            refine ⟨j + 1, by omega, by go_num, ?_, hbx.trans hb3⟩
            rw [len8_next _ _ hjt, ← List.append_assoc, ← EY.out]
            exact ho3
          case measure => simp [intOf]; omega
        · obtain rfl : j = 8 := by omega
          have eY : Y = X ++ len8 p.length := by rw [EY.out, List.take_of_length_le (by rw [len8_len]; omega)]
          rw [show ((8 : Nat) : Int) = 8 from rfl]
          have HYL := Lib.hid hYl
          have HE := Lib.hid eY
          have HU1 := Lib.hid ((HU.out.of_new (HB.out.trans (hbx.mono (by omega)))))
          clear hYl eY hjt
          go_wp2_with (at_builtin; refine wpList_app8 rfl (.tmp 31) (.tmp 32) 22 rfl (w.heap.size + 1) 5 i0 Tryd.underlying22 hi hz0 hz1 hz2 _ _ rfl HY.out _ p rfl HU1.out ?d1 ?d2 ?_)
          case d1 => rw [HYL.out]; omega
          case d2 => omega
          intro v3 w3 ho3 hg3 _
          have hb3 : Below (w.heap.size + 1) wr w3 := (Below.refl _ _).grown hg3 (by omega) (fun q hq => (HY.out.lt q hq).1)
          go_wp2
          go_roundw
          case rel =>
            refine ⟨k + 1, by omega, by go_num, ?_, HR.out.of_block ((hbx.trans hb3).block _ (by omega)), HB.out.trans ((hbx.trans hb3).mono (by omega)), by have := hb3.size; omega⟩
            rw [partsTo_next _ _ _ hlt, ← EX.out, ← EP.out, ← HE.out]
            exact ho3
          case measure => simp [intOf]; omega
    · obtain rfl : k = ps.length := by omega
      have eX : X = partsL tag ps := by rw [EX.out, List.take_length]
      have HEX := Lib.hid eX
      have HDL := Lib.hid (sumL_len X)
      have HKr := Lib.hid (HK.out.of_new HB.out)
      clear eX hlt hk
      go_wp2_with fail
      refine (Sum_any _ X _ HO.out.bytes (by omega) HKr.out).mono ?_
      rintro e w2 ⟨rfl, hb2⟩
      have hR2 := Lib.hid (HR.out.of_block (hb2.block _ (by omega)))
      have hbF := Lib.hid (below_next HB.out hb2)
      clear hb2
      go_wp2_with ((with_reducible refine wpList_store_octs (op := ⟨none, Op.store 25 (.tmp 4) (.tmp 36), _, _, _, _⟩) 25 (.tmp 4) (.tmp 36) w.heap.size 25 (List.replicate 32 (0 : UInt8)) (sumL X) ?g ?ho ?hx ?hy ?hh ?hi ?hs ?_); (case g => rfl); (case ho => rfl); (case hx => rfl); (case hy => rfl); (case hh => exact hR2.out); (case hi => rw [HDL.out]; kernel_rfl); (case hs => rw [HDL.out]; rfl))
      rw [← HEX.out]
      refine bodyPost_ret (results_cell rfl _ rfl (run_loadVar_row _ _ 25 _ ((sumL X).map B8).toArray (0, 0) _ (setRow_heap _ _ _ _ _ _ hR2.out) Tryd.underlying25 rfl (by rw [info_dig]; simp [sumL_len]))) rfl ⟨rfl, ?_⟩
      exact hbF.out.trans (below_setRow' _ _ _ (Nat.le_refl _))

end Go.Proofs.YtnomekfemadpeaaDoor
